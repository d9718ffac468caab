-- Written by a program out of the translation, over contracts proved by hand.
import Derived.Test.YtkclgfjfmlogmaaQStuffBackx0
import Derived.Test.YtkclgfjfmlogmaaQStuffBackx1
namespace Go.Proofs.Ytkclgfjfmlogmaa.QStuffBack
open Go.RowKit Go.Proofs.Ytkclgfjfmlogmaa.Plug Go.Proofs.YtkclgfjfmlogmaaW.PrintWords Go.Proofs.YtkclgfjfmlogmaaW.PrintLast Go.Proofs.YtkclgfjfmlogmaaW.PrintMore
attribute [local go_sem] max2_int min2_int max_two min_two max_three min_three max_four min_four   -- for this text's walks alone
set_option linter.unusedVariables false
set_option linter.unusedSimpArgs false

/-! ### ostinatolaw2_StuffBack: function 3 -/
mutual
def ostinatolaw2_StuffBack.j0 : Nat → ByteArray → ByteArray → Bool → Option (Bool)
  | 0, _, _, _ => none
  | k + 1, x7, x8, x56 => if x56 = true then (some false) else (ostinatolaw2_StuffBack.l0 k x7 x8 0 0)
def ostinatolaw2_StuffBack.l0 : Nat → ByteArray → ByteArray → Int → Int → Option (Bool)
  | 0, _, _, _, _ => none
  | k + 1, x7, x8, x11, x12 => if x12 < (x8.size : Int) then (if x12 > 0 then (if 0 ≤ x12 then (if 0 ≤ (wrap64 (x12 - 1)) then (if (wrap64 (x12 - 1)) < (x8.size : Int) then (ostinatolaw2_StuffBack.j2 k x7 x8 x11 x12 ((bt x8 x12) == (bt x8 (wrap64 (x12 - 1))))) else (none)) else (none)) else (none)) else (ostinatolaw2_StuffBack.j2 k x7 x8 x11 x12 false)) else ((stuff_Next.f x7).bind fun t118 => (if t118 ≥ 0 then (ostinatolaw2_StuffBack.j3 k x7 x8 x11 (x8.toList == x7.toList)) else (ostinatolaw2_StuffBack.j3 k x7 x8 x11 false)))
def ostinatolaw2_StuffBack.j2 : Nat → ByteArray → ByteArray → Int → Int → Bool → Option (Bool)
  | 0, _, _, _, _, _ => none
  | k + 1, x7, x8, x11, x12, x74 => if x74 = true then (if (wrap64 (x11 + 1)) > 5 then (some false) else (ostinatolaw2_StuffBack.l0 k x7 x8 (wrap64 (x11 + 1)) (wrap64 (x12 + 1)))) else (if 1 > 5 then (some false) else (ostinatolaw2_StuffBack.l0 k x7 x8 1 (wrap64 (x12 + 1))))
def ostinatolaw2_StuffBack.j3 : Nat → ByteArray → ByteArray → Int → Bool → Option (Bool)
  | 0, _, _, _, _ => none
  | k + 1, x7, x8, x11, x86 => if x86 = true then (some false) else (if (x8.size : Int) > 0 then (if x11 = 1 then (if (x8.size : Int) > 5 then (if 0 ≤ (wrap64 ((x8.size : Int) - 2)) then (if (wrap64 ((x8.size : Int) - 2)) < (x8.size : Int) then (if 0 ≤ (wrap64 ((x8.size : Int) - 6)) then (if (wrap64 ((x8.size : Int) - 6)) < (x8.size : Int) then (if (bt x8 (wrap64 ((x8.size : Int) - 2))) = (bt x8 (wrap64 ((x8.size : Int) - 6))) then (if 0 ≤ (wrap64 ((x8.size : Int) - 3)) then (if (wrap64 ((x8.size : Int) - 3)) < (x8.size : Int) then (if (bt x8 (wrap64 ((x8.size : Int) - 2))) = (bt x8 (wrap64 ((x8.size : Int) - 3))) then (if 0 ≤ (wrap64 ((x8.size : Int) - 4)) then (if (wrap64 ((x8.size : Int) - 4)) < (x8.size : Int) then (if (bt x8 (wrap64 ((x8.size : Int) - 3))) = (bt x8 (wrap64 ((x8.size : Int) - 4))) then (if 0 ≤ (wrap64 ((x8.size : Int) - 5)) then (if (wrap64 ((x8.size : Int) - 5)) < (x8.size : Int) then (if (bt x8 (wrap64 ((x8.size : Int) - 4))) = (bt x8 (wrap64 ((x8.size : Int) - 5))) then (if 0 ≤ (wrap64 ((x8.size : Int) - 1)) then (if (wrap64 ((x8.size : Int) - 1)) ≤ (x8.size : Int) then ((stuff_Unstuff.f (x8.extract 0 ((wrap64 ((x8.size : Int) - 1)) : Int).toNat)).bind fun bt119 => (if bt119.1.toList = x7.toList then (some (bt119.2 == (-1))) else (some false))) else (none)) else (none)) else (some true)) else (none)) else (none)) else (some true)) else (none)) else (none)) else (some true)) else (none)) else (none)) else (some true)) else (none)) else (none)) else (none)) else (none)) else (some true)) else (some true)) else (some true))
end
def ostinatolaw2_StuffBack.f (k : Nat) (a0 : Int) (a1 : Int) (a2 : Int) : Option (Bool) := (ostinatolaw2_known.f).bind fun t111 => (if t111 = true then ((ostinatoref1_Of.f a0 (wrap64 (Int.tmod a2 65))).bind fun t112 => ((ostinatoref1_Of.f a1 ((Int.tdiv a2 4) % 256)).bind fun t113 => (if t112.size + t113.size ≤ 9223372036854775807 then ((stuff_Stuff.f (t112 ++ t113)).bind fun t114 => ((stuff_Unstuff.f t114).bind fun bt115 => (if bt115.1.toList = (t112 ++ t113).toList then (if bt115.2 = (-1) then ((stuff_Most.f ((t112 ++ t113).size : Int)).bind fun t117 => (if (t114.size : Int) > t117 then (ostinatolaw2_StuffBack.j0 k (t112 ++ t113) t114 true) else (ostinatolaw2_StuffBack.j0 k (t112 ++ t113) t114 (decide ((t114.size : Int) < ((t112 ++ t113).size : Int)))))) else (ostinatolaw2_StuffBack.j0 k (t112 ++ t113) t114 true)) else (ostinatolaw2_StuffBack.j0 k (t112 ++ t113) t114 true)))) else (none)))) else (some false))
theorem ostinatolaw2_StuffBack.mono_l : ∀ k, (∀ y0 y1 y2, LeO (ostinatolaw2_StuffBack.j0 k y0 y1 y2) (ostinatolaw2_StuffBack.j0 (k + 1) y0 y1 y2)) ∧ (∀ y0 y1 y2 y3, LeO (ostinatolaw2_StuffBack.l0 k y0 y1 y2 y3) (ostinatolaw2_StuffBack.l0 (k + 1) y0 y1 y2 y3)) ∧ (∀ y0 y1 y2 y3 y4, LeO (ostinatolaw2_StuffBack.j2 k y0 y1 y2 y3 y4) (ostinatolaw2_StuffBack.j2 (k + 1) y0 y1 y2 y3 y4)) ∧ (∀ y0 y1 y2 y3, LeO (ostinatolaw2_StuffBack.j3 k y0 y1 y2 y3) (ostinatolaw2_StuffBack.j3 (k + 1) y0 y1 y2 y3))
  | 0 => ⟨fun _ _ _ r h => by simp [ostinatolaw2_StuffBack.j0] at h, fun _ _ _ _ r h => by simp [ostinatolaw2_StuffBack.l0] at h, fun _ _ _ _ _ r h => by simp [ostinatolaw2_StuffBack.j2] at h, fun _ _ _ _ r h => by simp [ostinatolaw2_StuffBack.j3] at h⟩
  | k + 1 => by
    obtain ⟨ih0, ih1, ih2, ih3⟩ := ostinatolaw2_StuffBack.mono_l k
    refine ⟨?_, ?_, ?_, ?_⟩
    · intro y0 y1 y2
      unfold ostinatolaw2_StuffBack.j0
      repeat' first
      | (with_reducible exact ih0 _ _ _)
      | (with_reducible exact ih1 _ _ _ _)
      | (with_reducible exact ih2 _ _ _ _ _)
      | (with_reducible exact ih3 _ _ _ _)
      | (with_reducible exact LeO.refl _)
      | (with_reducible exact LeO.none _)
      | (with_reducible refine LeO.ite ?_ ?_)
      | (with_reducible refine LeO.bind ?_ (fun _ => ?_))
      | exact ih0 _ _ _
      | exact ih1 _ _ _ _
      | exact ih2 _ _ _ _ _
      | exact ih3 _ _ _ _
      | exact LeO.none _
      | refine LeO.ite ?_ ?_
      | refine LeO.bind ?_ (fun _ => ?_)
    · intro y0 y1 y2 y3
      unfold ostinatolaw2_StuffBack.l0
      repeat' first
      | (with_reducible exact ih0 _ _ _)
      | (with_reducible exact ih1 _ _ _ _)
      | (with_reducible exact ih2 _ _ _ _ _)
      | (with_reducible exact ih3 _ _ _ _)
      | (with_reducible exact LeO.refl _)
      | (with_reducible exact LeO.none _)
      | (with_reducible refine LeO.ite ?_ ?_)
      | (with_reducible refine LeO.bind ?_ (fun _ => ?_))
      | exact ih0 _ _ _
      | exact ih1 _ _ _ _
      | exact ih2 _ _ _ _ _
      | exact ih3 _ _ _ _
      | exact LeO.none _
      | refine LeO.ite ?_ ?_
      | refine LeO.bind ?_ (fun _ => ?_)
    · intro y0 y1 y2 y3 y4
      unfold ostinatolaw2_StuffBack.j2
      repeat' first
      | (with_reducible exact ih0 _ _ _)
      | (with_reducible exact ih1 _ _ _ _)
      | (with_reducible exact ih2 _ _ _ _ _)
      | (with_reducible exact ih3 _ _ _ _)
      | (with_reducible exact LeO.refl _)
      | (with_reducible exact LeO.none _)
      | (with_reducible refine LeO.ite ?_ ?_)
      | (with_reducible refine LeO.bind ?_ (fun _ => ?_))
      | exact ih0 _ _ _
      | exact ih1 _ _ _ _
      | exact ih2 _ _ _ _ _
      | exact ih3 _ _ _ _
      | exact LeO.none _
      | refine LeO.ite ?_ ?_
      | refine LeO.bind ?_ (fun _ => ?_)
    · intro y0 y1 y2 y3
      unfold ostinatolaw2_StuffBack.j3
      repeat' first
      | (with_reducible exact ih0 _ _ _)
      | (with_reducible exact ih1 _ _ _ _)
      | (with_reducible exact ih2 _ _ _ _ _)
      | (with_reducible exact ih3 _ _ _ _)
      | (with_reducible exact LeO.refl _)
      | (with_reducible exact LeO.none _)
      | (with_reducible refine LeO.ite ?_ ?_)
      | (with_reducible refine LeO.bind ?_ (fun _ => ?_))
      | exact ih0 _ _ _
      | exact ih1 _ _ _ _
      | exact ih2 _ _ _ _ _
      | exact ih3 _ _ _ _
      | exact LeO.none _
      | refine LeO.ite ?_ ?_
      | refine LeO.bind ?_ (fun _ => ?_)
theorem ostinatolaw2_StuffBack.mono : ∀ a0 a1 a2 k, LeO (ostinatolaw2_StuffBack.f k a0 a1 a2) (ostinatolaw2_StuffBack.f (k + 1) a0 a1 a2) := by
  intro a0 a1 a2 k
  obtain ⟨ih0, ih1, ih2, ih3⟩ := ostinatolaw2_StuffBack.mono_l k
  unfold ostinatolaw2_StuffBack.f
  repeat' first
      | (with_reducible exact ih0 _ _ _)
      | (with_reducible exact ih1 _ _ _ _)
      | (with_reducible exact ih2 _ _ _ _ _)
      | (with_reducible exact ih3 _ _ _ _)
      | (with_reducible exact LeO.refl _)
      | (with_reducible exact LeO.none _)
      | (with_reducible refine LeO.ite ?_ ?_)
      | (with_reducible refine LeO.bind ?_ (fun _ => ?_))
      | exact ih0 _ _ _
      | exact ih1 _ _ _ _
      | exact ih2 _ _ _ _ _
      | exact ih3 _ _ _ _
      | exact LeO.none _
      | refine LeO.ite ?_ ?_
      | refine LeO.bind ?_ (fun _ => ?_)
set_option maxHeartbeats 8000000 in
set_option maxRecDepth 100000 in
theorem ostinatolaw2_StuffBack.calls (k : Nat) (a0 : Int) (a1 : Int) (a2 : Int) (r : Bool) (w : World) (h : ostinatolaw2_StuffBack.f k a0 a1 a2 = some r) :
    Calls Try.prog 3 #[.int .u64 a0, .int .u64 a1, .int .u8 a2] w fun e w' => e = .returned (.bool r) ∧ Below w.heap.size w w' := by
  have HB := Aside0.mk (Below.refl w.heap.size w)
  have H : ((ostinatolaw2_known.f).bind fun t111 => (if t111 = true then ((ostinatoref1_Of.f a0 (wrap64 (Int.tmod a2 65))).bind fun t112 => ((ostinatoref1_Of.f a1 ((Int.tdiv a2 4) % 256)).bind fun t113 => (if t112.size + t113.size ≤ 9223372036854775807 then ((stuff_Stuff.f (t112 ++ t113)).bind fun t114 => ((stuff_Unstuff.f t114).bind fun bt115 => (if bt115.1.toList = (t112 ++ t113).toList then (if bt115.2 = (-1) then ((stuff_Most.f ((t112 ++ t113).size : Int)).bind fun t117 => (if (t114.size : Int) > t117 then (ostinatolaw2_StuffBack.j0 k (t112 ++ t113) t114 true) else (ostinatolaw2_StuffBack.j0 k (t112 ++ t113) t114 (decide ((t114.size : Int) < ((t112 ++ t113).size : Int)))))) else (ostinatolaw2_StuffBack.j0 k (t112 ++ t113) t114 true)) else (ostinatolaw2_StuffBack.j0 k (t112 ++ t113) t114 true)))) else (none)))) else (some false))) = some r := h
  clear h
  replace H := Option.bind_eq_some_iff.mp H
  obtain ⟨t111, A40, H⟩ := H
  replace H : (if t111 = true then ((ostinatoref1_Of.f a0 (wrap64 (Int.tmod a2 65))).bind fun t112 => ((ostinatoref1_Of.f a1 ((Int.tdiv a2 4) % 256)).bind fun t113 => (if t112.size + t113.size ≤ 9223372036854775807 then ((stuff_Stuff.f (t112 ++ t113)).bind fun t114 => ((stuff_Unstuff.f t114).bind fun bt115 => (if bt115.1.toList = (t112 ++ t113).toList then (if bt115.2 = (-1) then ((stuff_Most.f ((t112 ++ t113).size : Int)).bind fun t117 => (if (t114.size : Int) > t117 then (ostinatolaw2_StuffBack.j0 k (t112 ++ t113) t114 true) else (ostinatolaw2_StuffBack.j0 k (t112 ++ t113) t114 (decide ((t114.size : Int) < ((t112 ++ t113).size : Int)))))) else (ostinatolaw2_StuffBack.j0 k (t112 ++ t113) t114 true)) else (ostinatolaw2_StuffBack.j0 k (t112 ++ t113) t114 true)))) else (none)))) else (some false)) = some r := H
  have A4 := Aside0.mk A40
  clear A40
  by_cases c5 : t111 = true
  · subst c5
    have H1 : ((ostinatoref1_Of.f a0 (wrap64 (Int.tmod a2 65))).bind fun t112 => ((ostinatoref1_Of.f a1 ((Int.tdiv a2 4) % 256)).bind fun t113 => (if t112.size + t113.size ≤ 9223372036854775807 then ((stuff_Stuff.f (t112 ++ t113)).bind fun t114 => ((stuff_Unstuff.f t114).bind fun bt115 => (if bt115.1.toList = (t112 ++ t113).toList then (if bt115.2 = (-1) then ((stuff_Most.f ((t112 ++ t113).size : Int)).bind fun t117 => (if (t114.size : Int) > t117 then (ostinatolaw2_StuffBack.j0 k (t112 ++ t113) t114 true) else (ostinatolaw2_StuffBack.j0 k (t112 ++ t113) t114 (decide ((t114.size : Int) < ((t112 ++ t113).size : Int)))))) else (ostinatolaw2_StuffBack.j0 k (t112 ++ t113) t114 true)) else (ostinatolaw2_StuffBack.j0 k (t112 ++ t113) t114 true)))) else (none)))) = some r := by rw [if_pos rfl] at H; exact H
    clear H
    have H := H1
    clear H1
    replace H := Option.bind_eq_some_iff.mp H
    obtain ⟨t112, A60, H⟩ := H
    replace H : ((ostinatoref1_Of.f a1 ((Int.tdiv a2 4) % 256)).bind fun t113 => (if t112.size + t113.size ≤ 9223372036854775807 then ((stuff_Stuff.f (t112 ++ t113)).bind fun t114 => ((stuff_Unstuff.f t114).bind fun bt115 => (if bt115.1.toList = (t112 ++ t113).toList then (if bt115.2 = (-1) then ((stuff_Most.f ((t112 ++ t113).size : Int)).bind fun t117 => (if (t114.size : Int) > t117 then (ostinatolaw2_StuffBack.j0 k (t112 ++ t113) t114 true) else (ostinatolaw2_StuffBack.j0 k (t112 ++ t113) t114 (decide ((t114.size : Int) < ((t112 ++ t113).size : Int)))))) else (ostinatolaw2_StuffBack.j0 k (t112 ++ t113) t114 true)) else (ostinatolaw2_StuffBack.j0 k (t112 ++ t113) t114 true)))) else (none))) = some r := H
    have A6 := Aside0.mk A60
    clear A60
    replace H := Option.bind_eq_some_iff.mp H
    obtain ⟨t113, A70, H⟩ := H
    replace H : (if t112.size + t113.size ≤ 9223372036854775807 then ((stuff_Stuff.f (t112 ++ t113)).bind fun t114 => ((stuff_Unstuff.f t114).bind fun bt115 => (if bt115.1.toList = (t112 ++ t113).toList then (if bt115.2 = (-1) then ((stuff_Most.f ((t112 ++ t113).size : Int)).bind fun t117 => (if (t114.size : Int) > t117 then (ostinatolaw2_StuffBack.j0 k (t112 ++ t113) t114 true) else (ostinatolaw2_StuffBack.j0 k (t112 ++ t113) t114 (decide ((t114.size : Int) < ((t112 ++ t113).size : Int)))))) else (ostinatolaw2_StuffBack.j0 k (t112 ++ t113) t114 true)) else (ostinatolaw2_StuffBack.j0 k (t112 ++ t113) t114 true)))) else (none)) = some r := H
    have A7 := Aside0.mk A70
    clear A70
    by_cases c8 : t112.size + t113.size ≤ 9223372036854775807
    · rw [if_pos c8] at H
      have c8b0 := eq_true c8
      have c8b1 : decide (t112.size + t113.size ≤ 9223372036854775807) = true := decide_eq_true c8
      try have c8b2 : (9223372036854775807 < t112.size + t113.size) = False := eq_false (Nat.not_lt.2 c8)
      replace H := Option.bind_eq_some_iff.mp H
      obtain ⟨t114, A90, H⟩ := H
      replace H : ((stuff_Unstuff.f t114).bind fun bt115 => (if bt115.1.toList = (t112 ++ t113).toList then (if bt115.2 = (-1) then ((stuff_Most.f ((t112 ++ t113).size : Int)).bind fun t117 => (if (t114.size : Int) > t117 then (ostinatolaw2_StuffBack.j0 k (t112 ++ t113) t114 true) else (ostinatolaw2_StuffBack.j0 k (t112 ++ t113) t114 (decide ((t114.size : Int) < ((t112 ++ t113).size : Int)))))) else (ostinatolaw2_StuffBack.j0 k (t112 ++ t113) t114 true)) else (ostinatolaw2_StuffBack.j0 k (t112 ++ t113) t114 true))) = some r := H
      have A9 := Aside0.mk A90
      clear A90
      replace H := Option.bind_eq_some_iff.mp H
      obtain ⟨⟨t115, t116⟩, A100, H⟩ := H
      replace H : (if t115.toList = (t112 ++ t113).toList then (if t116 = (-1) then ((stuff_Most.f ((t112 ++ t113).size : Int)).bind fun t117 => (if (t114.size : Int) > t117 then (ostinatolaw2_StuffBack.j0 k (t112 ++ t113) t114 true) else (ostinatolaw2_StuffBack.j0 k (t112 ++ t113) t114 (decide ((t114.size : Int) < ((t112 ++ t113).size : Int)))))) else (ostinatolaw2_StuffBack.j0 k (t112 ++ t113) t114 true)) else (ostinatolaw2_StuffBack.j0 k (t112 ++ t113) t114 true)) = some r := H
      have A10 := Aside0.mk A100
      clear A100
      have HC11 := Aside0.mk H
      clear H
      go_enter Try.func3, Try.ntmps3
      go_upto_region 6 with (first | (go_at_call 9; (with_reducible refine (ostinatolaw2_known.calls  true _ A4.out).mono ?_); rintro e w12 ⟨rfl, hb⟩; have n0_ := Aside0.mk (below_step (by repeat (first | (with_reducible first | exact HB.out | apply below_alloc | apply pw_below_drewN | apply below_drew1) | exact HB.out)) hb); clear HB; have HB := n0_; clear n0_; (try clear hb); (try clear hb2); (try clear hk); (try clear hi)) | (go_at_call 10; (with_reducible refine (ostinatoref1_Of.calls a0 (wrap64 (Int.tmod a2 65)) t112 _ A6.out).mono ?_); rintro e w13 ⟨rfl, hb⟩; have n0_ := Aside0.mk (below_step (by repeat (first | (with_reducible first | exact HB.out | apply below_alloc | apply pw_below_drewN | apply below_drew1) | exact HB.out)) hb); clear HB; have HB := n0_; clear n0_; (try clear hb); (try clear hb2); (try clear hk); (try clear hi)) | (go_at_call 10; (with_reducible refine (ostinatoref1_Of.calls a1 ((Int.tdiv a2 4) % 256) t113 _ A7.out).mono ?_); rintro e w14 ⟨rfl, hb⟩; have n0_ := Aside0.mk (below_step (by repeat (first | (with_reducible first | exact HB.out | apply below_alloc | apply pw_below_drewN | apply below_drew1) | exact HB.out)) hb); clear HB; have HB := n0_; clear n0_; (try clear hb); (try clear hb2); (try clear hk); (try clear hi)) | (go_at_call 11; (with_reducible refine (stuff_Stuff.calls (t112 ++ t113) t114 _ A9.out).mono ?_); rintro e w15 ⟨rfl, hb⟩; have n0_ := Aside0.mk (below_step (by repeat (first | (with_reducible first | exact HB.out | apply below_alloc | apply pw_below_drewN | apply below_drew1) | exact HB.out)) hb); clear HB; have HB := n0_; clear n0_; (try clear hb); (try clear hb2); (try clear hk); (try clear hi)) | (go_at_call 12; (with_reducible refine (stuff_Unstuff.calls t114 t115 t116 _ A10.out).mono ?_); rintro e w16 ⟨rfl, hb⟩; have n0_ := Aside0.mk (below_step (by repeat (first | (with_reducible first | exact HB.out | apply below_alloc | apply pw_below_drewN | apply below_drew1) | exact HB.out)) hb); clear HB; have HB := n0_; clear n0_; (try clear hb); (try clear hb2); (try clear hk); (try clear hi)))
      repeat (go_quiet (first | (go_at_call 9; (with_reducible refine (ostinatolaw2_known.calls  true _ A4.out).mono ?_); rintro e w12 ⟨rfl, hb⟩; have n0_ := Aside0.mk (below_step (by repeat (first | (with_reducible first | exact HB.out | apply below_alloc | apply pw_below_drewN | apply below_drew1) | exact HB.out)) hb); clear HB; have HB := n0_; clear n0_; (try clear hb); (try clear hb2); (try clear hk); (try clear hi)) | (go_at_call 10; (with_reducible refine (ostinatoref1_Of.calls a0 (wrap64 (Int.tmod a2 65)) t112 _ A6.out).mono ?_); rintro e w13 ⟨rfl, hb⟩; have n0_ := Aside0.mk (below_step (by repeat (first | (with_reducible first | exact HB.out | apply below_alloc | apply pw_below_drewN | apply below_drew1) | exact HB.out)) hb); clear HB; have HB := n0_; clear n0_; (try clear hb); (try clear hb2); (try clear hk); (try clear hi)) | (go_at_call 10; (with_reducible refine (ostinatoref1_Of.calls a1 ((Int.tdiv a2 4) % 256) t113 _ A7.out).mono ?_); rintro e w14 ⟨rfl, hb⟩; have n0_ := Aside0.mk (below_step (by repeat (first | (with_reducible first | exact HB.out | apply below_alloc | apply pw_below_drewN | apply below_drew1) | exact HB.out)) hb); clear HB; have HB := n0_; clear n0_; (try clear hb); (try clear hb2); (try clear hk); (try clear hi)) | (go_at_call 11; (with_reducible refine (stuff_Stuff.calls (t112 ++ t113) t114 _ A9.out).mono ?_); rintro e w15 ⟨rfl, hb⟩; have n0_ := Aside0.mk (below_step (by repeat (first | (with_reducible first | exact HB.out | apply below_alloc | apply pw_below_drewN | apply below_drew1) | exact HB.out)) hb); clear HB; have HB := n0_; clear n0_; (try clear hb); (try clear hb2); (try clear hk); (try clear hi)) | (go_at_call 12; (with_reducible refine (stuff_Unstuff.calls t114 t115 t116 _ A10.out).mono ?_); rintro e w16 ⟨rfl, hb⟩; have n0_ := Aside0.mk (below_step (by repeat (first | (with_reducible first | exact HB.out | apply below_alloc | apply pw_below_drewN | apply below_drew1) | exact HB.out)) hb); clear HB; have HB := n0_; clear n0_; (try clear hb); (try clear hb2); (try clear hk); (try clear hi))); go_upto_region 6 with (first | (go_at_call 9; (with_reducible refine (ostinatolaw2_known.calls  true _ A4.out).mono ?_); rintro e w12 ⟨rfl, hb⟩; have n0_ := Aside0.mk (below_step (by repeat (first | (with_reducible first | exact HB.out | apply below_alloc | apply pw_below_drewN | apply below_drew1) | exact HB.out)) hb); clear HB; have HB := n0_; clear n0_; (try clear hb); (try clear hb2); (try clear hk); (try clear hi)) | (go_at_call 10; (with_reducible refine (ostinatoref1_Of.calls a0 (wrap64 (Int.tmod a2 65)) t112 _ A6.out).mono ?_); rintro e w13 ⟨rfl, hb⟩; have n0_ := Aside0.mk (below_step (by repeat (first | (with_reducible first | exact HB.out | apply below_alloc | apply pw_below_drewN | apply below_drew1) | exact HB.out)) hb); clear HB; have HB := n0_; clear n0_; (try clear hb); (try clear hb2); (try clear hk); (try clear hi)) | (go_at_call 10; (with_reducible refine (ostinatoref1_Of.calls a1 ((Int.tdiv a2 4) % 256) t113 _ A7.out).mono ?_); rintro e w14 ⟨rfl, hb⟩; have n0_ := Aside0.mk (below_step (by repeat (first | (with_reducible first | exact HB.out | apply below_alloc | apply pw_below_drewN | apply below_drew1) | exact HB.out)) hb); clear HB; have HB := n0_; clear n0_; (try clear hb); (try clear hb2); (try clear hk); (try clear hi)) | (go_at_call 11; (with_reducible refine (stuff_Stuff.calls (t112 ++ t113) t114 _ A9.out).mono ?_); rintro e w15 ⟨rfl, hb⟩; have n0_ := Aside0.mk (below_step (by repeat (first | (with_reducible first | exact HB.out | apply below_alloc | apply pw_below_drewN | apply below_drew1) | exact HB.out)) hb); clear HB; have HB := n0_; clear n0_; (try clear hb); (try clear hb2); (try clear hk); (try clear hi)) | (go_at_call 12; (with_reducible refine (stuff_Unstuff.calls t114 t115 t116 _ A10.out).mono ?_); rintro e w16 ⟨rfl, hb⟩; have n0_ := Aside0.mk (below_step (by repeat (first | (with_reducible first | exact HB.out | apply below_alloc | apply pw_below_drewN | apply below_drew1) | exact HB.out)) hb); clear HB; have HB := n0_; clear n0_; (try clear hb); (try clear hb2); (try clear hk); (try clear hi))))
      (try simp only [Act.put, List.setIfInBounds_toArray, List.set_cons_zero, List.set_cons_succ])
      go_cut [56] (fun v56 wc => ∃ (kq : Nat) (x56_10 : Bool), v56 = .bool x56_10 ∧ Aside0 (ostinatolaw2_StuffBack.j0 kq (t112 ++ t113) t114 x56_10 = some r) ∧ Aside0 (kq ≤ k) ∧ Aside0 (Below w.heap.size w wc))
      case first =>
        have H := HC11.out
        clear HC11
        by_cases c17 : t115.toList = (t112 ++ t113).toList
        · rw [if_pos c17] at H
          have c17b0 : (t115.toList == (t112 ++ t113).toList) = true := beq_iff_eq.mpr c17
          have c17b1 : (t115.toList != (t112 ++ t113).toList) = false := bne_eq_false_iff_eq.mpr c17
          clear c17
          (first | rw [c17b0] | (simp only [i64_w, i32_w]; rw [c17b0]) | skip)
          by_cases c18 : t116 = (-1)
          · rw [if_pos c18] at H
            have c18b0 : (t116 == (-1)) = true := beq_iff_eq.mpr c18
            have c18b1 : (t116 != (-1)) = false := bne_eq_false_iff_eq.mpr c18
            clear c18
            replace H := Option.bind_eq_some_iff.mp H
            obtain ⟨t117, A190, H⟩ := H
            replace H : (if (t114.size : Int) > t117 then (ostinatolaw2_StuffBack.j0 k (t112 ++ t113) t114 true) else (ostinatolaw2_StuffBack.j0 k (t112 ++ t113) t114 (decide ((t114.size : Int) < ((t112 ++ t113).size : Int))))) = some r := H
            have A19 := Aside0.mk A190
            clear A190
            by_cases c20 : (t114.size : Int) > t117
            · rw [if_pos c20] at H
              have c20b0 : decide (t117 < (t114.size : Int)) = true := decide_eq_true c20
              clear c20
              have H' := Aside0.mk H
              clear H
              go_wp2_with (first | (go_at_call 13; (with_reducible refine (stuff_Most.calls ((t112.size : Int) + (t113.size : Int)) t117 _ (by have h := A19.out; rw [ByteArray.size_append, Int.natCast_add] at h; exact h)).mono ?_); rintro e w' ⟨rfl, ⟨nd, rfl⟩⟩; (try first | exact ⟨rfl, _, World.drewN_drewN _ _ _⟩ | exact ⟨rfl, _, Eq.trans (World.drewN_drewN _ _ _) (congrArg (World.drewN _) (Nat.add_assoc _ _ _))⟩)))
              repeat (go_quiet (first | (go_at_call 13; (with_reducible refine (stuff_Most.calls ((t112.size : Int) + (t113.size : Int)) t117 _ (by have h := A19.out; rw [ByteArray.size_append, Int.natCast_add] at h; exact h)).mono ?_); rintro e w' ⟨rfl, ⟨nd, rfl⟩⟩; (try first | exact ⟨rfl, _, World.drewN_drewN _ _ _⟩ | exact ⟨rfl, _, Eq.trans (World.drewN_drewN _ _ _) (congrArg (World.drewN _) (Nat.add_assoc _ _ _))⟩))); try go_wp2_with (first | (go_at_call 13; (with_reducible refine (stuff_Most.calls ((t112.size : Int) + (t113.size : Int)) t117 _ (by have h := A19.out; rw [ByteArray.size_append, Int.natCast_add] at h; exact h)).mono ?_); rintro e w' ⟨rfl, ⟨nd, rfl⟩⟩; (try first | exact ⟨rfl, _, World.drewN_drewN _ _ _⟩ | exact ⟨rfl, _, Eq.trans (World.drewN_drewN _ _ _) (congrArg (World.drewN _) (Nat.add_assoc _ _ _))⟩))))
              go_meet
              case rel => exact ⟨_, (true), (by first | rfl | (simp; done) | (simp [*]; done)), H', ⟨by first | omega | exact Nat.le_refl _⟩, ⟨by repeat (first | (with_reducible first | exact HB.out | apply below_alloc | apply pw_below_drewN | apply below_drew1) | exact HB.out)⟩⟩
            · rw [if_neg c20] at H
              have c20b0 : decide (t117 < (t114.size : Int)) = false := decide_eq_false c20
              clear c20
              have H' := Aside0.mk H
              clear H
              go_wp2_with (first | (go_at_call 13; (with_reducible refine (stuff_Most.calls ((t112.size : Int) + (t113.size : Int)) t117 _ (by have h := A19.out; rw [ByteArray.size_append, Int.natCast_add] at h; exact h)).mono ?_); rintro e w' ⟨rfl, ⟨nd, rfl⟩⟩; (try first | exact ⟨rfl, _, World.drewN_drewN _ _ _⟩ | exact ⟨rfl, _, Eq.trans (World.drewN_drewN _ _ _) (congrArg (World.drewN _) (Nat.add_assoc _ _ _))⟩)))
              repeat (go_quiet (first | (go_at_call 13; (with_reducible refine (stuff_Most.calls ((t112.size : Int) + (t113.size : Int)) t117 _ (by have h := A19.out; rw [ByteArray.size_append, Int.natCast_add] at h; exact h)).mono ?_); rintro e w' ⟨rfl, ⟨nd, rfl⟩⟩; (try first | exact ⟨rfl, _, World.drewN_drewN _ _ _⟩ | exact ⟨rfl, _, Eq.trans (World.drewN_drewN _ _ _) (congrArg (World.drewN _) (Nat.add_assoc _ _ _))⟩))); try go_wp2_with (first | (go_at_call 13; (with_reducible refine (stuff_Most.calls ((t112.size : Int) + (t113.size : Int)) t117 _ (by have h := A19.out; rw [ByteArray.size_append, Int.natCast_add] at h; exact h)).mono ?_); rintro e w' ⟨rfl, ⟨nd, rfl⟩⟩; (try first | exact ⟨rfl, _, World.drewN_drewN _ _ _⟩ | exact ⟨rfl, _, Eq.trans (World.drewN_drewN _ _ _) (congrArg (World.drewN _) (Nat.add_assoc _ _ _))⟩))))
              go_meet
              case rel => exact ⟨_, (decide ((t114.size : Int) < ((t112 ++ t113).size : Int))), (by first | rfl | (simp; done) | (simp [*]; done)), H', ⟨by first | omega | exact Nat.le_refl _⟩, ⟨by repeat (first | (with_reducible first | exact HB.out | apply below_alloc | apply pw_below_drewN | apply below_drew1) | exact HB.out)⟩⟩
          · rw [if_neg c18] at H
            have c18b0 : (t116 == (-1)) = false := beq_eq_false_iff_ne.mpr c18
            have c18b1 : (t116 != (-1)) = true := bne_iff_ne.mpr c18
            have H' := Aside0.mk H
            clear H
            go_wp2
            repeat (go_quiet (fail); try go_wp2)
            go_meet
            case rel => exact ⟨_, (true), (by first | rfl | (simp; done) | (simp [*]; done)), H', ⟨by first | omega | exact Nat.le_refl _⟩, ⟨by repeat (first | (with_reducible first | exact HB.out | apply below_alloc | apply pw_below_drewN | apply below_drew1) | exact HB.out)⟩⟩
        · rw [if_neg c17] at H
          have c17b0 : (t115.toList == (t112 ++ t113).toList) = false := beq_eq_false_iff_ne.mpr c17
          have c17b1 : (t115.toList != (t112 ++ t113).toList) = true := bne_iff_ne.mpr c17
          (first | rw [c17b0] | (simp only [i64_w, i32_w]; rw [c17b0]) | skip)
          have H' := Aside0.mk H
          clear H
          go_wp2
          repeat (go_quiet (fail); try go_wp2)
          go_meet
          case rel => exact ⟨_, (true), (by first | rfl | (simp; done) | (simp [*]; done)), H', ⟨by first | omega | exact Nat.le_refl _⟩, ⟨by repeat (first | (with_reducible first | exact HB.out | apply below_alloc | apply pw_below_drewN | apply below_drew1) | exact HB.out)⟩⟩
      case rest =>
        clear HC11
        try clear c1
        try clear c2
        try clear p2
        try clear c3
        try clear c5
        try clear p6
        try clear c8
        try clear c8b0
        try clear c8b1
        try clear c8b2
        try clear c17
        try clear c17b0
        try clear c17b1
        try clear c18
        try clear c18b0
        try clear c18b1
        try clear c20
        try clear c20b0
        obtain ⟨kq, x56_10, rfl, HA, HJ10, HB⟩ := hcut
        cases kq with
        | zero => exact absurd HA.out (by simp [ostinatolaw2_StuffBack.j0])
        | succ kj10 =>
          have H := HA.out
          clear HA
          simp only [ostinatolaw2_StuffBack.j0] at H
          by_cases c21 : x56_10 = true
          · subst c21
            have H1 : (some false) = some r := by rw [if_pos rfl] at H; exact H
            clear H
            have H := H1
            clear H1
            obtain rfl := Option.some.inj H
            go_wp2
            repeat (go_quiet (fail); try go_wp2)
            go_ret
            exact ⟨by first | rfl | (simp [errW_none, errW_some] <;> rfl) | (simp [*, errW_none, errW_some] <;> rfl), by repeat (first | (with_reducible first | exact HB.out | apply below_alloc | apply pw_below_drewN | apply below_drew1) | exact HB.out)⟩
          · replace c21 := Bool.eq_false_iff.mpr c21
            subst c21
            have H1 : (ostinatolaw2_StuffBack.l0 kj10 (t112 ++ t113) t114 0 0) = some r := by rw [if_neg (show ¬ (false = true) by decide)] at H; exact H
            clear H
            have H := H1
            clear H1
            have H' := Aside0.mk H
            clear H
            go_wp2
            repeat (go_quiet (fail); try go_wp2)
            go_loopg [11, 12] kj10 (fun kq v11 v12 w' => ∃ (x11_2 : Int) (x12_2 : Int), v11 = .int .i64 x11_2 ∧ v12 = .int .i64 x12_2 ∧ Aside0 (ostinatolaw2_StuffBack.l0 kq (t112 ++ t113) t114 x11_2 x12_2 = some r) ∧ Aside0 (kq ≤ kj10) ∧ Aside0 (Below w.heap.size w w'))
            case atStart => exact ⟨(0), (0), (by first | rfl | (simp; done) | (simp [*]; done)), (by first | rfl | (simp; done) | (simp [*]; done)), H', ⟨Nat.le_refl _⟩, ⟨by repeat (first | (with_reducible first | exact HB.out | apply below_alloc | apply pw_below_drewN | apply below_drew1) | exact HB.out)⟩⟩
            case round =>
              clear H'
              try clear c1
              try clear c2
              try clear p2
              try clear c3
              try clear c5
              try clear p6
              try clear c8
              try clear c8b0
              try clear c8b1
              try clear c8b2
              try clear c17
              try clear c17b0
              try clear c17b1
              try clear c18
              try clear c18b0
              try clear c18b1
              try clear c20
              try clear c20b0
              try clear c21
              try clear p2
              try clear p6
              obtain ⟨x11_2, x12_2, rfl, rfl, HA, HK2, HB⟩ := hrel
              cases gk with
              | zero => exact absurd HA.out (by simp [ostinatolaw2_StuffBack.l0])
              | succ k2 =>
                have H := HA.out
                clear HA
                simp only [ostinatolaw2_StuffBack.l0] at H
                by_cases c22 : x12_2 < (t114.size : Int)
                · rw [if_pos c22] at H
                  have c22b0 : decide (x12_2 < (t114.size : Int)) = true := decide_eq_true c22
                  clear c22
                  have HC23 := Aside0.mk H
                  clear H
                  go_upto_region 12 with (fail)
                  repeat (go_quiet (fail); go_upto_region 12 with (fail))
                  go_cut [74] (fun v74 wc => ∃ (kq : Nat) (x74_22 : Bool), v74 = .bool x74_22 ∧ Aside0 (ostinatolaw2_StuffBack.j2 kq (t112 ++ t113) t114 x11_2 x12_2 x74_22 = some r) ∧ Aside0 (kq ≤ k2) ∧ Aside0 (Below w.heap.size w wc))
                  case first =>
                    have H := HC23.out
                    clear HC23
                    by_cases c24 : x12_2 > 0
                    · rw [if_pos c24] at H
                      have c24b0 : decide (0 < x12_2) = true := decide_eq_true c24
                      clear c24
                      (first | rw [c24b0] | (simp only [i64_w, i32_w]; rw [c24b0]) | skip)
                      by_cases c25 : 0 ≤ x12_2
                      · rw [if_pos c25] at H
                        have c25b0 : decide (0 ≤ x12_2) = true := decide_eq_true c25
                        clear c25
                        obtain ⟨ji27, hji27⟩ : ∃ j_ : Int, (wrap64 (x12_2 - 1)) = j_ := ⟨_, rfl⟩
                        replace H : (if 0 ≤ (ji27) then (if (ji27) < (t114.size : Int) then (ostinatolaw2_StuffBack.j2 k2 (t112 ++ t113) t114 x11_2 x12_2 ((bt t114 x12_2) == (bt t114 (ji27)))) else (none)) else (none)) = some r := by first | (rw [hji27] at H; exact H) | (simp only [hji27] at H ⊢; exact H)
                        have hji27w : (IntKind.i64.wrap (x12_2 - 1)) = ji27 := (i64_w _).trans hji27
                        by_cases c28 : 0 ≤ (ji27)
                        · rw [if_pos c28] at H
                          have c28b0 : decide (0 ≤ (ji27)) = true := decide_eq_true c28
                          clear c28
                          by_cases c29 : (ji27) < (t114.size : Int)
                          · rw [if_pos c29] at H
                            have c29b0 : decide ((ji27) < (t114.size : Int)) = true := decide_eq_true c29
                            clear c29
                            have H' := Aside0.mk H
                            clear H
                            have p26 : 0 ≤ (x12_2 : Int) := of_decide_eq_true (by first | (with_reducible assumption) | assumption)
                            have q26 : x12_2 < (t114.size : Int) := of_decide_eq_true (by first | (with_reducible assumption) | assumption)
                            have hx26 := bt_at t114 x12_2
                            replace p26 := eq_true p26
                            replace q26 := eq_true q26
                            have p30 : 0 ≤ ((ji27) : Int) := of_decide_eq_true (by first | (with_reducible assumption) | assumption)
                            have q30 : (ji27) < (t114.size : Int) := of_decide_eq_true (by first | (with_reducible assumption) | assumption)
                            have hx30 := bt_at t114 (ji27)
                            replace p30 := eq_true p30
                            replace q30 := eq_true q30
                            go_wp2
                            repeat (go_quiet (fail); try go_wp2)
                            go_meet
                            case rel => exact ⟨_, (((bt t114 x12_2) == (bt t114 (ji27)))), (by first | rfl | (simp; done) | (simp only [← hji27] <;> (first | rfl | simp)) | (simp [*]; done)), H', ⟨by have := HJ10.out; have := HK2.out; first | omega | exact Nat.le_refl _⟩, ⟨by repeat (first | (with_reducible first | exact HB.out | apply below_alloc | apply pw_below_drewN | apply below_drew1) | exact HB.out)⟩⟩
                          · rw [if_neg c29] at H
                            exact absurd H (by simp)
                        · rw [if_neg c28] at H
                          exact absurd H (by simp)
                      · rw [if_neg c25] at H
                        exact absurd H (by simp)
                    · rw [if_neg c24] at H
                      have c24b0 : decide (0 < x12_2) = false := decide_eq_false c24
                      clear c24
                      (first | rw [c24b0] | (simp only [i64_w, i32_w]; rw [c24b0]) | skip)
                      have H' := Aside0.mk H
                      clear H
                      go_wp2
                      repeat (go_quiet (fail); try go_wp2)
                      go_meet
                      case rel => exact ⟨_, (false), (by first | rfl | (simp; done) | (simp [*]; done)), H', ⟨by have := HJ10.out; have := HK2.out; first | omega | exact Nat.le_refl _⟩, ⟨by repeat (first | (with_reducible first | exact HB.out | apply below_alloc | apply pw_below_drewN | apply below_drew1) | exact HB.out)⟩⟩
                  case rest =>
                    clear HC23
                    try clear c1
                    try clear c2
                    try clear p2
                    try clear q2
                    try clear hx2
                    try clear c3
                    try clear p3
                    try clear q3
                    try clear hx3
                    try clear c5
                    try clear p6
                    try clear c8
                    try clear c8b0
                    try clear c8b1
                    try clear c8b2
                    try clear c17
                    try clear c17b0
                    try clear c17b1
                    try clear c18
                    try clear c18b0
                    try clear c18b1
                    try clear c20
                    try clear c20b0
                    try clear c21
                    try clear c22
                    try clear c22b0
                    try clear c24
                    try clear c24b0
                    try clear c25
                    try clear c25b0
                    try clear p26
                    try clear q26
                    try clear hx26
                    try clear c28
                    try clear c28b0
                    try clear c29
                    try clear c29b0
                    try clear p30
                    try clear q30
                    try clear hx30
                    try clear p2
                    try clear p26
                    try clear p30
                    try clear p6
                    try clear q26
                    try clear q30
                    obtain ⟨kq, x74_22, rfl, HA, HJ22, HB⟩ := hcut
                    cases kq with
                    | zero => exact absurd HA.out (by simp [ostinatolaw2_StuffBack.j2])
                    | succ kj22 =>
                      have H := HA.out
                      clear HA
                      simp only [ostinatolaw2_StuffBack.j2] at H
                      by_cases c31 : x74_22 = true
                      · subst c31
                        have H1 : (if (wrap64 (x11_2 + 1)) > 5 then (some false) else (ostinatolaw2_StuffBack.l0 kj22 (t112 ++ t113) t114 (wrap64 (x11_2 + 1)) (wrap64 (x12_2 + 1)))) = some r := by rw [if_pos rfl] at H; exact H
                        clear H
                        have H := H1
                        clear H1
                        by_cases c32 : (wrap64 (x11_2 + 1)) > 5
                        · rw [if_pos c32] at H
                          have c32b0 : decide (5 < (wrap64 (x11_2 + 1))) = true := decide_eq_true c32
                          clear c32
                          obtain rfl := Option.some.inj H
                          go_wp2
                          repeat (go_quiet (fail); try go_wp2)
                          go_ret
                          exact ⟨by first | rfl | (simp [errW_none, errW_some] <;> rfl) | (simp [*, errW_none, errW_some] <;> rfl), by repeat (first | (with_reducible first | exact HB.out | apply below_alloc | apply pw_below_drewN | apply below_drew1) | exact HB.out)⟩
                        · rw [if_neg c32] at H
                          have c32b0 : decide (5 < (wrap64 (x11_2 + 1))) = false := decide_eq_false c32
                          clear c32
                          have H' := Aside0.mk H
                          clear H
                          go_wp2
                          repeat (go_quiet (fail); try go_wp2)
                          go_roundg kj22
                          case measure => have := HJ10.out; have := HK2.out; have := HJ22.out; omega
                          case rel => exact ⟨(wrap64 (x11_2 + 1)), (wrap64 (x12_2 + 1)), (by first | rfl | (simp; done) | (simp [*]; done)), (by first | rfl | (simp; done) | (simp [*]; done)), H', ⟨by have := HJ10.out; have := HK2.out; have := HJ22.out; omega⟩, ⟨by repeat (first | (with_reducible first | exact HB.out | apply below_alloc | apply pw_below_drewN | apply below_drew1) | exact HB.out)⟩⟩
                      · replace c31 := Bool.eq_false_iff.mpr c31
                        subst c31
                        have H1 : (if 1 > 5 then (some false) else (ostinatolaw2_StuffBack.l0 kj22 (t112 ++ t113) t114 1 (wrap64 (x12_2 + 1)))) = some r := by rw [if_neg (show ¬ (false = true) by decide)] at H; exact H
                        clear H
                        have H := H1
                        clear H1
                        by_cases c33 : 1 > 5
                        · exact absurd c33 (by decide)
                        · rw [if_neg c33] at H
                          have c33b0 : decide (5 < 1) = false := decide_eq_false c33
                          clear c33
                          have H' := Aside0.mk H
                          clear H
                          go_wp2
                          repeat (go_quiet (fail); try go_wp2)
                          go_roundg kj22
                          case measure => have := HJ10.out; have := HK2.out; have := HJ22.out; omega
                          case rel => exact ⟨(1), (wrap64 (x12_2 + 1)), (by first | rfl | (simp; done) | (simp [*]; done)), (by first | rfl | (simp; done) | (simp [*]; done)), H', ⟨by have := HJ10.out; have := HK2.out; have := HJ22.out; omega⟩, ⟨by repeat (first | (with_reducible first | exact HB.out | apply below_alloc | apply pw_below_drewN | apply below_drew1) | exact HB.out)⟩⟩
                · rw [if_neg c22] at H
                  have c22b0 : decide (x12_2 < (t114.size : Int)) = false := decide_eq_false c22
                  clear c22
                  have HC34 := Aside0.mk H
                  clear H
                  go_upto_region 17 with (fail)
                  repeat (go_quiet (fail); go_upto_region 17 with (fail))
                  go_cut [86] (fun v86 wc => ∃ (kq : Nat) (x86_33 : Bool), v86 = .bool x86_33 ∧ Aside0 (ostinatolaw2_StuffBack.j3 kq (t112 ++ t113) t114 x11_2 x86_33 = some r) ∧ Aside0 (kq ≤ k2) ∧ Aside0 (Below w.heap.size w wc))
                  case first =>
                    have H := HC34.out
                    clear HC34
                    replace H := Option.bind_eq_some_iff.mp H
                    obtain ⟨t118, A350, H⟩ := H
                    replace H : (if t118 ≥ 0 then (ostinatolaw2_StuffBack.j3 k2 (t112 ++ t113) t114 x11_2 (t114.toList == (t112 ++ t113).toList)) else (ostinatolaw2_StuffBack.j3 k2 (t112 ++ t113) t114 x11_2 false)) = some r := H
                    have A35 := Aside0.mk A350
                    clear A350
                    by_cases c36 : t118 ≥ 0
                    · rw [if_pos c36] at H
                      have c36b0 : decide (0 ≤ t118) = true := decide_eq_true c36
                      clear c36
                      (first | rw [c36b0] | (simp only [i64_w, i32_w]; rw [c36b0]) | skip)
                      have H' := Aside0.mk H
                      clear H
                      go_wp2_with (first | (go_at_call 14; (with_reducible refine (stuff_Next.calls (t112 ++ t113) t118 _ A35.out).mono ?_); rintro e w37 ⟨rfl, hb⟩; have n0_ := Aside0.mk (below_step (by repeat (first | (with_reducible first | exact HB.out | apply below_alloc | apply pw_below_drewN | apply below_drew1) | exact HB.out)) hb); clear HB; have HB := n0_; clear n0_; (try clear hb); (try clear hb2); (try clear hk); (try clear hi)))
                      repeat (go_quiet (first | (go_at_call 14; (with_reducible refine (stuff_Next.calls (t112 ++ t113) t118 _ A35.out).mono ?_); rintro e w37 ⟨rfl, hb⟩; have n0_ := Aside0.mk (below_step (by repeat (first | (with_reducible first | exact HB.out | apply below_alloc | apply pw_below_drewN | apply below_drew1) | exact HB.out)) hb); clear HB; have HB := n0_; clear n0_; (try clear hb); (try clear hb2); (try clear hk); (try clear hi))); try go_wp2_with (first | (go_at_call 14; (with_reducible refine (stuff_Next.calls (t112 ++ t113) t118 _ A35.out).mono ?_); rintro e w37 ⟨rfl, hb⟩; have n0_ := Aside0.mk (below_step (by repeat (first | (with_reducible first | exact HB.out | apply below_alloc | apply pw_below_drewN | apply below_drew1) | exact HB.out)) hb); clear HB; have HB := n0_; clear n0_; (try clear hb); (try clear hb2); (try clear hk); (try clear hi))))
                      go_meet
                      case rel => exact ⟨_, ((t114.toList == (t112 ++ t113).toList)), (by first | rfl | (simp; done) | (simp [*]; done)), H', ⟨by have := HJ10.out; have := HK2.out; first | omega | exact Nat.le_refl _⟩, ⟨by repeat (first | (with_reducible first | exact HB.out | apply below_alloc | apply pw_below_drewN | apply below_drew1) | exact HB.out)⟩⟩
                    · rw [if_neg c36] at H
                      have c36b0 : decide (0 ≤ t118) = false := decide_eq_false c36
                      clear c36
                      (first | rw [c36b0] | (simp only [i64_w, i32_w]; rw [c36b0]) | skip)
                      have H' := Aside0.mk H
                      clear H
                      go_wp2_with (first | (go_at_call 14; (with_reducible refine (stuff_Next.calls (t112 ++ t113) t118 _ A35.out).mono ?_); rintro e w38 ⟨rfl, hb⟩; have n0_ := Aside0.mk (below_step (by repeat (first | (with_reducible first | exact HB.out | apply below_alloc | apply pw_below_drewN | apply below_drew1) | exact HB.out)) hb); clear HB; have HB := n0_; clear n0_; (try clear hb); (try clear hb2); (try clear hk); (try clear hi)))
                      repeat (go_quiet (first | (go_at_call 14; (with_reducible refine (stuff_Next.calls (t112 ++ t113) t118 _ A35.out).mono ?_); rintro e w38 ⟨rfl, hb⟩; have n0_ := Aside0.mk (below_step (by repeat (first | (with_reducible first | exact HB.out | apply below_alloc | apply pw_below_drewN | apply below_drew1) | exact HB.out)) hb); clear HB; have HB := n0_; clear n0_; (try clear hb); (try clear hb2); (try clear hk); (try clear hi))); try go_wp2_with (first | (go_at_call 14; (with_reducible refine (stuff_Next.calls (t112 ++ t113) t118 _ A35.out).mono ?_); rintro e w38 ⟨rfl, hb⟩; have n0_ := Aside0.mk (below_step (by repeat (first | (with_reducible first | exact HB.out | apply below_alloc | apply pw_below_drewN | apply below_drew1) | exact HB.out)) hb); clear HB; have HB := n0_; clear n0_; (try clear hb); (try clear hb2); (try clear hk); (try clear hi))))
                      go_meet
                      case rel => exact ⟨_, (false), (by first | rfl | (simp; done) | (simp [*]; done)), H', ⟨by have := HJ10.out; have := HK2.out; first | omega | exact Nat.le_refl _⟩, ⟨by repeat (first | (with_reducible first | exact HB.out | apply below_alloc | apply pw_below_drewN | apply below_drew1) | exact HB.out)⟩⟩
                  case rest =>
                    clear HC34
                    try clear c1
                    try clear c2
                    try clear p2
                    try clear q2
                    try clear hx2
                    try clear c3
                    try clear p3
                    try clear q3
                    try clear hx3
                    try clear c5
                    try clear p6
                    try clear c8
                    try clear c8b0
                    try clear c8b1
                    try clear c8b2
                    try clear c17
                    try clear c17b0
                    try clear c17b1
                    try clear c18
                    try clear c18b0
                    try clear c18b1
                    try clear c20
                    try clear c20b0
                    try clear c21
                    try clear c22
                    try clear c22b0
                    try clear c24
                    try clear c24b0
                    try clear c25
                    try clear c25b0
                    try clear p26
                    try clear q26
                    try clear hx26
                    try clear c28
                    try clear c28b0
                    try clear c29
                    try clear c29b0
                    try clear p30
                    try clear q30
                    try clear hx30
                    try clear c31
                    try clear c32
                    try clear c32b0
                    try clear c33
                    try clear c33b0
                    try clear c36
                    try clear c36b0
                    try clear p2
                    try clear p26
                    try clear p3
                    try clear p30
                    try clear p6
                    try clear q2
                    try clear q26
                    try clear q3
                    try clear q30
                    obtain ⟨kq, x86_33, rfl, HA, HJ33, HB⟩ := hcut
                    cases kq with
                    | zero => exact absurd HA.out (by simp [ostinatolaw2_StuffBack.j3])
                    | succ kj33 =>
                      have H := HA.out
                      clear HA
                      simp only [ostinatolaw2_StuffBack.j3] at H
                      by_cases c39 : x86_33 = true
                      · subst c39
                        have H1 : (some false) = some r := by rw [if_pos rfl] at H; exact H
                        clear H
                        have H := H1
                        clear H1
                        obtain rfl := Option.some.inj H
                        go_wp2
                        repeat (go_quiet (fail); try go_wp2)
                        go_ret
                        exact ⟨by first | rfl | (simp [errW_none, errW_some] <;> rfl) | (simp [*, errW_none, errW_some] <;> rfl), by repeat (first | (with_reducible first | exact HB.out | apply below_alloc | apply pw_below_drewN | apply below_drew1) | exact HB.out)⟩
                      · replace c39 := Bool.eq_false_iff.mpr c39
                        subst c39
                        have H1 : (if (t114.size : Int) > 0 then (if x11_2 = 1 then (if (t114.size : Int) > 5 then (if 0 ≤ (wrap64 ((t114.size : Int) - 2)) then (if (wrap64 ((t114.size : Int) - 2)) < (t114.size : Int) then (if 0 ≤ (wrap64 ((t114.size : Int) - 6)) then (if (wrap64 ((t114.size : Int) - 6)) < (t114.size : Int) then (if (bt t114 (wrap64 ((t114.size : Int) - 2))) = (bt t114 (wrap64 ((t114.size : Int) - 6))) then (if 0 ≤ (wrap64 ((t114.size : Int) - 3)) then (if (wrap64 ((t114.size : Int) - 3)) < (t114.size : Int) then (if (bt t114 (wrap64 ((t114.size : Int) - 2))) = (bt t114 (wrap64 ((t114.size : Int) - 3))) then (if 0 ≤ (wrap64 ((t114.size : Int) - 4)) then (if (wrap64 ((t114.size : Int) - 4)) < (t114.size : Int) then (if (bt t114 (wrap64 ((t114.size : Int) - 3))) = (bt t114 (wrap64 ((t114.size : Int) - 4))) then (if 0 ≤ (wrap64 ((t114.size : Int) - 5)) then (if (wrap64 ((t114.size : Int) - 5)) < (t114.size : Int) then (if (bt t114 (wrap64 ((t114.size : Int) - 4))) = (bt t114 (wrap64 ((t114.size : Int) - 5))) then (if 0 ≤ (wrap64 ((t114.size : Int) - 1)) then (if (wrap64 ((t114.size : Int) - 1)) ≤ (t114.size : Int) then ((stuff_Unstuff.f (t114.extract 0 ((wrap64 ((t114.size : Int) - 1)) : Int).toNat)).bind fun bt119 => (if bt119.1.toList = (t112 ++ t113).toList then (some (bt119.2 == (-1))) else (some false))) else (none)) else (none)) else (some true)) else (none)) else (none)) else (some true)) else (none)) else (none)) else (some true)) else (none)) else (none)) else (some true)) else (none)) else (none)) else (none)) else (none)) else (some true)) else (some true)) else (some true)) = some r := by rw [if_neg (show ¬ (false = true) by decide)] at H; exact H
                        clear H
                        have H := H1
                        clear H1
                        by_cases c40 : (t114.size : Int) > 0
                        · rw [if_pos c40] at H
                          have c40b0 : decide (0 < (t114.size : Int)) = true := decide_eq_true c40
                          have c40b1 : decide (0 < t114.size) = true := decide_eq_true (by omega)
                          clear c40
                          by_cases c41 : x11_2 = 1
                          · rw [if_pos c41] at H
                            have c41b0 : (x11_2 == 1) = true := beq_iff_eq.mpr c41
                            have c41b1 : (x11_2 != 1) = false := bne_eq_false_iff_eq.mpr c41
                            clear c41
                            by_cases c42 : (t114.size : Int) > 5
                            · rw [if_pos c42] at H
                              have c42b0 : decide (5 < (t114.size : Int)) = true := decide_eq_true c42
                              have c42b1 : decide (5 < t114.size) = true := decide_eq_true (by omega)
                              clear c42
                              obtain ⟨ji43, hji43⟩ : ∃ j_ : Int, (wrap64 ((t114.size : Int) - 2)) = j_ := ⟨_, rfl⟩
                              replace H : (if 0 ≤ (ji43) then (if (ji43) < (t114.size : Int) then (if 0 ≤ (wrap64 ((t114.size : Int) - 6)) then (if (wrap64 ((t114.size : Int) - 6)) < (t114.size : Int) then (if (bt t114 (ji43)) = (bt t114 (wrap64 ((t114.size : Int) - 6))) then (if 0 ≤ (wrap64 ((t114.size : Int) - 3)) then (if (wrap64 ((t114.size : Int) - 3)) < (t114.size : Int) then (if (bt t114 (ji43)) = (bt t114 (wrap64 ((t114.size : Int) - 3))) then (if 0 ≤ (wrap64 ((t114.size : Int) - 4)) then (if (wrap64 ((t114.size : Int) - 4)) < (t114.size : Int) then (if (bt t114 (wrap64 ((t114.size : Int) - 3))) = (bt t114 (wrap64 ((t114.size : Int) - 4))) then (if 0 ≤ (wrap64 ((t114.size : Int) - 5)) then (if (wrap64 ((t114.size : Int) - 5)) < (t114.size : Int) then (if (bt t114 (wrap64 ((t114.size : Int) - 4))) = (bt t114 (wrap64 ((t114.size : Int) - 5))) then (if 0 ≤ (wrap64 ((t114.size : Int) - 1)) then (if (wrap64 ((t114.size : Int) - 1)) ≤ (t114.size : Int) then ((stuff_Unstuff.f (t114.extract 0 ((wrap64 ((t114.size : Int) - 1)) : Int).toNat)).bind fun bt119 => (if bt119.1.toList = (t112 ++ t113).toList then (some (bt119.2 == (-1))) else (some false))) else (none)) else (none)) else (some true)) else (none)) else (none)) else (some true)) else (none)) else (none)) else (some true)) else (none)) else (none)) else (some true)) else (none)) else (none)) else (none)) else (none)) = some r := by first | (rw [hji43] at H; exact H) | (simp only [hji43] at H ⊢; exact H)
                              have hji43w : (IntKind.i64.wrap ((t114.size : Int) - 2)) = ji43 := (i64_w _).trans hji43
                              by_cases c44 : 0 ≤ (ji43)
                              · rw [if_pos c44] at H
                                have c44b0 : decide (0 ≤ (ji43)) = true := decide_eq_true c44
                                clear c44
                                by_cases c45 : (ji43) < (t114.size : Int)
                                · rw [if_pos c45] at H
                                  have c45b0 : decide ((ji43) < (t114.size : Int)) = true := decide_eq_true c45
                                  clear c45
                                  obtain ⟨ji47, hji47⟩ : ∃ j_ : Int, (wrap64 ((t114.size : Int) - 6)) = j_ := ⟨_, rfl⟩
                                  replace H : (if 0 ≤ (ji47) then (if (ji47) < (t114.size : Int) then (if (bt t114 (ji43)) = (bt t114 (ji47)) then (if 0 ≤ (wrap64 ((t114.size : Int) - 3)) then (if (wrap64 ((t114.size : Int) - 3)) < (t114.size : Int) then (if (bt t114 (ji43)) = (bt t114 (wrap64 ((t114.size : Int) - 3))) then (if 0 ≤ (wrap64 ((t114.size : Int) - 4)) then (if (wrap64 ((t114.size : Int) - 4)) < (t114.size : Int) then (if (bt t114 (wrap64 ((t114.size : Int) - 3))) = (bt t114 (wrap64 ((t114.size : Int) - 4))) then (if 0 ≤ (wrap64 ((t114.size : Int) - 5)) then (if (wrap64 ((t114.size : Int) - 5)) < (t114.size : Int) then (if (bt t114 (wrap64 ((t114.size : Int) - 4))) = (bt t114 (wrap64 ((t114.size : Int) - 5))) then (if 0 ≤ (wrap64 ((t114.size : Int) - 1)) then (if (wrap64 ((t114.size : Int) - 1)) ≤ (t114.size : Int) then ((stuff_Unstuff.f (t114.extract 0 ((wrap64 ((t114.size : Int) - 1)) : Int).toNat)).bind fun bt119 => (if bt119.1.toList = (t112 ++ t113).toList then (some (bt119.2 == (-1))) else (some false))) else (none)) else (none)) else (some true)) else (none)) else (none)) else (some true)) else (none)) else (none)) else (some true)) else (none)) else (none)) else (some true)) else (none)) else (none)) = some r := by first | (rw [hji47] at H; exact H) | (simp only [hji47] at H ⊢; exact H)
                                  have hji47w : (IntKind.i64.wrap ((t114.size : Int) - 6)) = ji47 := (i64_w _).trans hji47
                                  by_cases c48 : 0 ≤ (ji47)
                                  · rw [if_pos c48] at H
                                    have c48b0 : decide (0 ≤ (ji47)) = true := decide_eq_true c48
                                    clear c48
                                    by_cases c49 : (ji47) < (t114.size : Int)
                                    · rw [if_pos c49] at H
                                      have c49b0 : decide ((ji47) < (t114.size : Int)) = true := decide_eq_true c49
                                      clear c49
                                      by_cases c51 : (bt t114 (ji43)) = (bt t114 (ji47))
                                      · rw [if_pos c51] at H
                                        have c51b0 : ((bt t114 (ji43)) == (bt t114 (ji47))) = true := beq_iff_eq.mpr c51
                                        have c51b1 : ((bt t114 (ji43)) != (bt t114 (ji47))) = false := bne_eq_false_iff_eq.mpr c51
                                        clear c51
                                        obtain ⟨ji53, hji53⟩ : ∃ j_ : Int, (wrap64 ((t114.size : Int) - 3)) = j_ := ⟨_, rfl⟩
                                        replace H : (if 0 ≤ (ji53) then (if (ji53) < (t114.size : Int) then (if (bt t114 (ji43)) = (bt t114 (ji53)) then (if 0 ≤ (wrap64 ((t114.size : Int) - 4)) then (if (wrap64 ((t114.size : Int) - 4)) < (t114.size : Int) then (if (bt t114 (ji53)) = (bt t114 (wrap64 ((t114.size : Int) - 4))) then (if 0 ≤ (wrap64 ((t114.size : Int) - 5)) then (if (wrap64 ((t114.size : Int) - 5)) < (t114.size : Int) then (if (bt t114 (wrap64 ((t114.size : Int) - 4))) = (bt t114 (wrap64 ((t114.size : Int) - 5))) then (if 0 ≤ (wrap64 ((t114.size : Int) - 1)) then (if (wrap64 ((t114.size : Int) - 1)) ≤ (t114.size : Int) then ((stuff_Unstuff.f (t114.extract 0 ((wrap64 ((t114.size : Int) - 1)) : Int).toNat)).bind fun bt119 => (if bt119.1.toList = (t112 ++ t113).toList then (some (bt119.2 == (-1))) else (some false))) else (none)) else (none)) else (some true)) else (none)) else (none)) else (some true)) else (none)) else (none)) else (some true)) else (none)) else (none)) = some r := by first | (rw [hji53] at H; exact H) | (simp only [hji53] at H ⊢; exact H)
                                        have hji53w : (IntKind.i64.wrap ((t114.size : Int) - 3)) = ji53 := (i64_w _).trans hji53
                                        by_cases c54 : 0 ≤ (ji53)
                                        · rw [if_pos c54] at H
                                          have c54b0 : decide (0 ≤ (ji53)) = true := decide_eq_true c54
                                          clear c54
                                          by_cases c55 : (ji53) < (t114.size : Int)
                                          · rw [if_pos c55] at H
                                            have c55b0 : decide ((ji53) < (t114.size : Int)) = true := decide_eq_true c55
                                            clear c55
                                            by_cases c57 : (bt t114 (ji43)) = (bt t114 (ji53))
                                            · rw [if_pos c57] at H
                                              have c57b0 : ((bt t114 (ji43)) == (bt t114 (ji53))) = true := beq_iff_eq.mpr c57
                                              have c57b1 : ((bt t114 (ji43)) != (bt t114 (ji53))) = false := bne_eq_false_iff_eq.mpr c57
                                              clear c57
                                              obtain ⟨ji59, hji59⟩ : ∃ j_ : Int, (wrap64 ((t114.size : Int) - 4)) = j_ := ⟨_, rfl⟩
                                              replace H : (if 0 ≤ (ji59) then (if (ji59) < (t114.size : Int) then (if (bt t114 (ji53)) = (bt t114 (ji59)) then (if 0 ≤ (wrap64 ((t114.size : Int) - 5)) then (if (wrap64 ((t114.size : Int) - 5)) < (t114.size : Int) then (if (bt t114 (ji59)) = (bt t114 (wrap64 ((t114.size : Int) - 5))) then (if 0 ≤ (wrap64 ((t114.size : Int) - 1)) then (if (wrap64 ((t114.size : Int) - 1)) ≤ (t114.size : Int) then ((stuff_Unstuff.f (t114.extract 0 ((wrap64 ((t114.size : Int) - 1)) : Int).toNat)).bind fun bt119 => (if bt119.1.toList = (t112 ++ t113).toList then (some (bt119.2 == (-1))) else (some false))) else (none)) else (none)) else (some true)) else (none)) else (none)) else (some true)) else (none)) else (none)) = some r := by first | (rw [hji59] at H; exact H) | (simp only [hji59] at H ⊢; exact H)
                                              have hji59w : (IntKind.i64.wrap ((t114.size : Int) - 4)) = ji59 := (i64_w _).trans hji59
                                              by_cases c60 : 0 ≤ (ji59)
                                              · rw [if_pos c60] at H
                                                have c60b0 : decide (0 ≤ (ji59)) = true := decide_eq_true c60
                                                clear c60
                                                by_cases c61 : (ji59) < (t114.size : Int)
                                                · rw [if_pos c61] at H
                                                  have c61b0 : decide ((ji59) < (t114.size : Int)) = true := decide_eq_true c61
                                                  clear c61
                                                  by_cases c63 : (bt t114 (ji53)) = (bt t114 (ji59))
                                                  · rw [if_pos c63] at H
                                                    have c63b0 : ((bt t114 (ji53)) == (bt t114 (ji59))) = true := beq_iff_eq.mpr c63
                                                    have c63b1 : ((bt t114 (ji53)) != (bt t114 (ji59))) = false := bne_eq_false_iff_eq.mpr c63
                                                    clear c63
                                                    obtain ⟨ji65, hji65⟩ : ∃ j_ : Int, (wrap64 ((t114.size : Int) - 5)) = j_ := ⟨_, rfl⟩
                                                    replace H : (if 0 ≤ (ji65) then (if (ji65) < (t114.size : Int) then (if (bt t114 (ji59)) = (bt t114 (ji65)) then (if 0 ≤ (wrap64 ((t114.size : Int) - 1)) then (if (wrap64 ((t114.size : Int) - 1)) ≤ (t114.size : Int) then ((stuff_Unstuff.f (t114.extract 0 ((wrap64 ((t114.size : Int) - 1)) : Int).toNat)).bind fun bt119 => (if bt119.1.toList = (t112 ++ t113).toList then (some (bt119.2 == (-1))) else (some false))) else (none)) else (none)) else (some true)) else (none)) else (none)) = some r := by first | (rw [hji65] at H; exact H) | (simp only [hji65] at H ⊢; exact H)
                                                    have hji65w : (IntKind.i64.wrap ((t114.size : Int) - 5)) = ji65 := (i64_w _).trans hji65
                                                    by_cases c66 : 0 ≤ (ji65)
                                                    · rw [if_pos c66] at H
                                                      have c66b0 : decide (0 ≤ (ji65)) = true := decide_eq_true c66
                                                      clear c66
                                                      by_cases c67 : (ji65) < (t114.size : Int)
                                                      · rw [if_pos c67] at H
                                                        have c67b0 : decide ((ji65) < (t114.size : Int)) = true := decide_eq_true c67
                                                        clear c67
                                                        by_cases c69 : (bt t114 (ji59)) = (bt t114 (ji65))
                                                        · rw [if_pos c69] at H
                                                          have c69b0 : ((bt t114 (ji59)) == (bt t114 (ji65))) = true := beq_iff_eq.mpr c69
                                                          have c69b1 : ((bt t114 (ji59)) != (bt t114 (ji65))) = false := bne_eq_false_iff_eq.mpr c69
                                                          clear c69
                                                          obtain ⟨ji70, hji70⟩ : ∃ j_ : Int, (wrap64 ((t114.size : Int) - 1)) = j_ := ⟨_, rfl⟩
                                                          replace H : (if 0 ≤ (ji70) then (if (ji70) ≤ (t114.size : Int) then ((stuff_Unstuff.f (t114.extract 0 ((ji70) : Int).toNat)).bind fun bt119 => (if bt119.1.toList = (t112 ++ t113).toList then (some (bt119.2 == (-1))) else (some false))) else (none)) else (none)) = some r := by first | (rw [hji70] at H; exact H) | (simp only [hji70] at H ⊢; exact H)
                                                          have hji70w : (IntKind.i64.wrap ((t114.size : Int) - 1)) = ji70 := (i64_w _).trans hji70
                                                          by_cases c71 : 0 ≤ (ji70)
                                                          · rw [if_pos c71] at H
                                                            have c71b0 := eq_true c71
                                                            have c71b1 : decide (0 ≤ (ji70)) = true := decide_eq_true c71
                                                            clear c71
                                                            by_cases c72 : (ji70) ≤ (t114.size : Int)
                                                            · rw [if_pos c72] at H
                                                              have c72b0 := eq_true c72
                                                              have c72b1 : decide ((ji70) ≤ (t114.size : Int)) = true := decide_eq_true c72
                                                              clear c72
                                                              replace H := Option.bind_eq_some_iff.mp H
                                                              obtain ⟨⟨t119, t120⟩, A730, H⟩ := H
                                                              replace H : (if t119.toList = (t112 ++ t113).toList then (some (t120 == (-1))) else (some false)) = some r := H
                                                              have A73 := Aside0.mk A730
                                                              clear A730
                                                              by_cases c74 : t119.toList = (t112 ++ t113).toList
                                                              · rw [if_pos c74] at H
                                                                have c74b0 : (t119.toList == (t112 ++ t113).toList) = true := beq_iff_eq.mpr c74
                                                                have c74b1 : (t119.toList != (t112 ++ t113).toList) = false := bne_eq_false_iff_eq.mpr c74
                                                                clear c74
                                                                obtain rfl := Option.some.inj H
                                                                have p46 : 0 ≤ ((ji43) : Int) := of_decide_eq_true (by first | (with_reducible assumption) | assumption)
                                                                have q46 : (ji43) < (t114.size : Int) := of_decide_eq_true (by first | (with_reducible assumption) | assumption)
                                                                have hx46 := bt_at t114 (ji43)
                                                                replace p46 := eq_true p46
                                                                replace q46 := eq_true q46
                                                                have p50 : 0 ≤ ((ji47) : Int) := of_decide_eq_true (by first | (with_reducible assumption) | assumption)
                                                                have q50 : (ji47) < (t114.size : Int) := of_decide_eq_true (by first | (with_reducible assumption) | assumption)
                                                                have hx50 := bt_at t114 (ji47)
                                                                replace p50 := eq_true p50
                                                                replace q50 := eq_true q50
                                                                have p52 : 0 ≤ ((ji43) : Int) := of_decide_eq_true (by first | (with_reducible assumption) | assumption)
                                                                have q52 : (ji43) < (t114.size : Int) := of_decide_eq_true (by first | (with_reducible assumption) | assumption)
                                                                have hx52 := bt_at t114 (ji43)
                                                                replace p52 := eq_true p52
                                                                replace q52 := eq_true q52
                                                                have p56 : 0 ≤ ((ji53) : Int) := of_decide_eq_true (by first | (with_reducible assumption) | assumption)
                                                                have q56 : (ji53) < (t114.size : Int) := of_decide_eq_true (by first | (with_reducible assumption) | assumption)
                                                                have hx56 := bt_at t114 (ji53)
                                                                replace p56 := eq_true p56
                                                                replace q56 := eq_true q56
                                                                have p58 : 0 ≤ ((ji53) : Int) := of_decide_eq_true (by first | (with_reducible assumption) | assumption)
                                                                have q58 : (ji53) < (t114.size : Int) := of_decide_eq_true (by first | (with_reducible assumption) | assumption)
                                                                have hx58 := bt_at t114 (ji53)
                                                                replace p58 := eq_true p58
                                                                replace q58 := eq_true q58
                                                                have p62 : 0 ≤ ((ji59) : Int) := of_decide_eq_true (by first | (with_reducible assumption) | assumption)
                                                                have q62 : (ji59) < (t114.size : Int) := of_decide_eq_true (by first | (with_reducible assumption) | assumption)
                                                                have hx62 := bt_at t114 (ji59)
                                                                replace p62 := eq_true p62
                                                                replace q62 := eq_true q62
                                                                have p64 : 0 ≤ ((ji59) : Int) := of_decide_eq_true (by first | (with_reducible assumption) | assumption)
                                                                have q64 : (ji59) < (t114.size : Int) := of_decide_eq_true (by first | (with_reducible assumption) | assumption)
                                                                have hx64 := bt_at t114 (ji59)
                                                                replace p64 := eq_true p64
                                                                replace q64 := eq_true q64
                                                                have p68 : 0 ≤ ((ji65) : Int) := of_decide_eq_true (by first | (with_reducible assumption) | assumption)
                                                                have q68 : (ji65) < (t114.size : Int) := of_decide_eq_true (by first | (with_reducible assumption) | assumption)
                                                                have hx68 := bt_at t114 (ji65)
                                                                replace p68 := eq_true p68
                                                                replace q68 := eq_true q68
                                                                go_wp2_with (first | (go_at_call 12; (with_reducible refine (stuff_Unstuff.calls (t114.extract 0 ((ji70) : Int).toNat) t119 t120 _ A73.out).mono ?_); rintro e w75 ⟨rfl, hb⟩; have n0_ := Aside0.mk (below_step (by repeat (first | (with_reducible first | exact HB.out | apply below_alloc | apply pw_below_drewN | apply below_drew1) | exact HB.out)) hb); clear HB; have HB := n0_; clear n0_; (try clear hb); (try clear hb2); (try clear hk); (try clear hi)))
                                                                repeat (go_quiet (first | (go_at_call 12; (with_reducible refine (stuff_Unstuff.calls (t114.extract 0 ((ji70) : Int).toNat) t119 t120 _ A73.out).mono ?_); rintro e w75 ⟨rfl, hb⟩; have n0_ := Aside0.mk (below_step (by repeat (first | (with_reducible first | exact HB.out | apply below_alloc | apply pw_below_drewN | apply below_drew1) | exact HB.out)) hb); clear HB; have HB := n0_; clear n0_; (try clear hb); (try clear hb2); (try clear hk); (try clear hi))); try go_wp2_with (first | (go_at_call 12; (with_reducible refine (stuff_Unstuff.calls (t114.extract 0 ((ji70) : Int).toNat) t119 t120 _ A73.out).mono ?_); rintro e w75 ⟨rfl, hb⟩; have n0_ := Aside0.mk (below_step (by repeat (first | (with_reducible first | exact HB.out | apply below_alloc | apply pw_below_drewN | apply below_drew1) | exact HB.out)) hb); clear HB; have HB := n0_; clear n0_; (try clear hb); (try clear hb2); (try clear hk); (try clear hi))))
                                                                go_ret
                                                                exact ⟨by first | rfl | (simp [errW_none, errW_some] <;> rfl) | (simp only [← hji43, ← hji47, ← hji53, ← hji59, ← hji65, ← hji70]; first | rfl | (simp [errW_none, errW_some] <;> rfl)) | (simp [*, errW_none, errW_some] <;> rfl), by repeat (first | (with_reducible first | exact HB.out | apply below_alloc | apply pw_below_drewN | apply below_drew1) | exact HB.out)⟩
                                                              · rw [if_neg c74] at H
                                                                have c74b0 : (t119.toList == (t112 ++ t113).toList) = false := beq_eq_false_iff_ne.mpr c74
                                                                have c74b1 : (t119.toList != (t112 ++ t113).toList) = true := bne_iff_ne.mpr c74
                                                                obtain rfl := Option.some.inj H
                                                                have p46 : 0 ≤ ((ji43) : Int) := of_decide_eq_true (by first | (with_reducible assumption) | assumption)
                                                                have q46 : (ji43) < (t114.size : Int) := of_decide_eq_true (by first | (with_reducible assumption) | assumption)
                                                                have hx46 := bt_at t114 (ji43)
                                                                replace p46 := eq_true p46
                                                                replace q46 := eq_true q46
                                                                have p50 : 0 ≤ ((ji47) : Int) := of_decide_eq_true (by first | (with_reducible assumption) | assumption)
                                                                have q50 : (ji47) < (t114.size : Int) := of_decide_eq_true (by first | (with_reducible assumption) | assumption)
                                                                have hx50 := bt_at t114 (ji47)
                                                                replace p50 := eq_true p50
                                                                replace q50 := eq_true q50
                                                                have p52 : 0 ≤ ((ji43) : Int) := of_decide_eq_true (by first | (with_reducible assumption) | assumption)
                                                                have q52 : (ji43) < (t114.size : Int) := of_decide_eq_true (by first | (with_reducible assumption) | assumption)
                                                                have hx52 := bt_at t114 (ji43)
                                                                replace p52 := eq_true p52
                                                                replace q52 := eq_true q52
                                                                have p56 : 0 ≤ ((ji53) : Int) := of_decide_eq_true (by first | (with_reducible assumption) | assumption)
                                                                have q56 : (ji53) < (t114.size : Int) := of_decide_eq_true (by first | (with_reducible assumption) | assumption)
                                                                have hx56 := bt_at t114 (ji53)
                                                                replace p56 := eq_true p56
                                                                replace q56 := eq_true q56
                                                                have p58 : 0 ≤ ((ji53) : Int) := of_decide_eq_true (by first | (with_reducible assumption) | assumption)
                                                                have q58 : (ji53) < (t114.size : Int) := of_decide_eq_true (by first | (with_reducible assumption) | assumption)
                                                                have hx58 := bt_at t114 (ji53)
                                                                replace p58 := eq_true p58
                                                                replace q58 := eq_true q58
                                                                have p62 : 0 ≤ ((ji59) : Int) := of_decide_eq_true (by first | (with_reducible assumption) | assumption)
                                                                have q62 : (ji59) < (t114.size : Int) := of_decide_eq_true (by first | (with_reducible assumption) | assumption)
                                                                have hx62 := bt_at t114 (ji59)
                                                                replace p62 := eq_true p62
                                                                replace q62 := eq_true q62
                                                                have p64 : 0 ≤ ((ji59) : Int) := of_decide_eq_true (by first | (with_reducible assumption) | assumption)
                                                                have q64 : (ji59) < (t114.size : Int) := of_decide_eq_true (by first | (with_reducible assumption) | assumption)
                                                                have hx64 := bt_at t114 (ji59)
                                                                replace p64 := eq_true p64
                                                                replace q64 := eq_true q64
                                                                have p68 : 0 ≤ ((ji65) : Int) := of_decide_eq_true (by first | (with_reducible assumption) | assumption)
                                                                have q68 : (ji65) < (t114.size : Int) := of_decide_eq_true (by first | (with_reducible assumption) | assumption)
                                                                have hx68 := bt_at t114 (ji65)
                                                                replace p68 := eq_true p68
                                                                replace q68 := eq_true q68
                                                                go_wp2_with (first | (go_at_call 12; (with_reducible refine (stuff_Unstuff.calls (t114.extract 0 ((ji70) : Int).toNat) t119 t120 _ A73.out).mono ?_); rintro e w76 ⟨rfl, hb⟩; have n0_ := Aside0.mk (below_step (by repeat (first | (with_reducible first | exact HB.out | apply below_alloc | apply pw_below_drewN | apply below_drew1) | exact HB.out)) hb); clear HB; have HB := n0_; clear n0_; (try clear hb); (try clear hb2); (try clear hk); (try clear hi)))
                                                                repeat (go_quiet (first | (go_at_call 12; (with_reducible refine (stuff_Unstuff.calls (t114.extract 0 ((ji70) : Int).toNat) t119 t120 _ A73.out).mono ?_); rintro e w76 ⟨rfl, hb⟩; have n0_ := Aside0.mk (below_step (by repeat (first | (with_reducible first | exact HB.out | apply below_alloc | apply pw_below_drewN | apply below_drew1) | exact HB.out)) hb); clear HB; have HB := n0_; clear n0_; (try clear hb); (try clear hb2); (try clear hk); (try clear hi))); try go_wp2_with (first | (go_at_call 12; (with_reducible refine (stuff_Unstuff.calls (t114.extract 0 ((ji70) : Int).toNat) t119 t120 _ A73.out).mono ?_); rintro e w76 ⟨rfl, hb⟩; have n0_ := Aside0.mk (below_step (by repeat (first | (with_reducible first | exact HB.out | apply below_alloc | apply pw_below_drewN | apply below_drew1) | exact HB.out)) hb); clear HB; have HB := n0_; clear n0_; (try clear hb); (try clear hb2); (try clear hk); (try clear hi))))
                                                                go_ret
                                                                exact ⟨by first | rfl | (simp [errW_none, errW_some] <;> rfl) | (simp only [← hji43, ← hji47, ← hji53, ← hji59, ← hji65, ← hji70]; first | rfl | (simp [errW_none, errW_some] <;> rfl)) | (simp [*, errW_none, errW_some] <;> rfl), by repeat (first | (with_reducible first | exact HB.out | apply below_alloc | apply pw_below_drewN | apply below_drew1) | exact HB.out)⟩
                                                            · rw [if_neg c72] at H
                                                              exact absurd H (by simp)
                                                          · rw [if_neg c71] at H
                                                            exact absurd H (by simp)
                                                        · rw [if_neg c69] at H
                                                          have c69b0 : ((bt t114 (ji59)) == (bt t114 (ji65))) = false := beq_eq_false_iff_ne.mpr c69
                                                          have c69b1 : ((bt t114 (ji59)) != (bt t114 (ji65))) = true := bne_iff_ne.mpr c69
                                                          obtain rfl := Option.some.inj H
                                                          have p46 : 0 ≤ ((ji43) : Int) := of_decide_eq_true (by first | (with_reducible assumption) | assumption)
                                                          have q46 : (ji43) < (t114.size : Int) := of_decide_eq_true (by first | (with_reducible assumption) | assumption)
                                                          have hx46 := bt_at t114 (ji43)
                                                          replace p46 := eq_true p46
                                                          replace q46 := eq_true q46
                                                          have p50 : 0 ≤ ((ji47) : Int) := of_decide_eq_true (by first | (with_reducible assumption) | assumption)
                                                          have q50 : (ji47) < (t114.size : Int) := of_decide_eq_true (by first | (with_reducible assumption) | assumption)
                                                          have hx50 := bt_at t114 (ji47)
                                                          replace p50 := eq_true p50
                                                          replace q50 := eq_true q50
                                                          have p52 : 0 ≤ ((ji43) : Int) := of_decide_eq_true (by first | (with_reducible assumption) | assumption)
                                                          have q52 : (ji43) < (t114.size : Int) := of_decide_eq_true (by first | (with_reducible assumption) | assumption)
                                                          have hx52 := bt_at t114 (ji43)
                                                          replace p52 := eq_true p52
                                                          replace q52 := eq_true q52
                                                          have p56 : 0 ≤ ((ji53) : Int) := of_decide_eq_true (by first | (with_reducible assumption) | assumption)
                                                          have q56 : (ji53) < (t114.size : Int) := of_decide_eq_true (by first | (with_reducible assumption) | assumption)
                                                          have hx56 := bt_at t114 (ji53)
                                                          replace p56 := eq_true p56
                                                          replace q56 := eq_true q56
                                                          have p58 : 0 ≤ ((ji53) : Int) := of_decide_eq_true (by first | (with_reducible assumption) | assumption)
                                                          have q58 : (ji53) < (t114.size : Int) := of_decide_eq_true (by first | (with_reducible assumption) | assumption)
                                                          have hx58 := bt_at t114 (ji53)
                                                          replace p58 := eq_true p58
                                                          replace q58 := eq_true q58
                                                          have p62 : 0 ≤ ((ji59) : Int) := of_decide_eq_true (by first | (with_reducible assumption) | assumption)
                                                          have q62 : (ji59) < (t114.size : Int) := of_decide_eq_true (by first | (with_reducible assumption) | assumption)
                                                          have hx62 := bt_at t114 (ji59)
                                                          replace p62 := eq_true p62
                                                          replace q62 := eq_true q62
                                                          have p64 : 0 ≤ ((ji59) : Int) := of_decide_eq_true (by first | (with_reducible assumption) | assumption)
                                                          have q64 : (ji59) < (t114.size : Int) := of_decide_eq_true (by first | (with_reducible assumption) | assumption)
                                                          have hx64 := bt_at t114 (ji59)
                                                          replace p64 := eq_true p64
                                                          replace q64 := eq_true q64
                                                          have p68 : 0 ≤ ((ji65) : Int) := of_decide_eq_true (by first | (with_reducible assumption) | assumption)
                                                          have q68 : (ji65) < (t114.size : Int) := of_decide_eq_true (by first | (with_reducible assumption) | assumption)
                                                          have hx68 := bt_at t114 (ji65)
                                                          replace p68 := eq_true p68
                                                          replace q68 := eq_true q68
                                                          go_wp2
                                                          repeat (go_quiet (fail); try go_wp2)
                                                          go_ret
                                                          exact ⟨by first | rfl | (simp [errW_none, errW_some] <;> rfl) | (simp only [← hji43, ← hji47, ← hji53, ← hji59, ← hji65]; first | rfl | (simp [errW_none, errW_some] <;> rfl)) | (simp [*, errW_none, errW_some] <;> rfl), by repeat (first | (with_reducible first | exact HB.out | apply below_alloc | apply pw_below_drewN | apply below_drew1) | exact HB.out)⟩
                                                      · rw [if_neg c67] at H
                                                        exact absurd H (by simp)
                                                    · rw [if_neg c66] at H
                                                      exact absurd H (by simp)
                                                  · rw [if_neg c63] at H
                                                    have c63b0 : ((bt t114 (ji53)) == (bt t114 (ji59))) = false := beq_eq_false_iff_ne.mpr c63
                                                    have c63b1 : ((bt t114 (ji53)) != (bt t114 (ji59))) = true := bne_iff_ne.mpr c63
                                                    obtain rfl := Option.some.inj H
                                                    have p46 : 0 ≤ ((ji43) : Int) := of_decide_eq_true (by first | (with_reducible assumption) | assumption)
                                                    have q46 : (ji43) < (t114.size : Int) := of_decide_eq_true (by first | (with_reducible assumption) | assumption)
                                                    have hx46 := bt_at t114 (ji43)
                                                    replace p46 := eq_true p46
                                                    replace q46 := eq_true q46
                                                    have p50 : 0 ≤ ((ji47) : Int) := of_decide_eq_true (by first | (with_reducible assumption) | assumption)
                                                    have q50 : (ji47) < (t114.size : Int) := of_decide_eq_true (by first | (with_reducible assumption) | assumption)
                                                    have hx50 := bt_at t114 (ji47)
                                                    replace p50 := eq_true p50
                                                    replace q50 := eq_true q50
                                                    have p52 : 0 ≤ ((ji43) : Int) := of_decide_eq_true (by first | (with_reducible assumption) | assumption)
                                                    have q52 : (ji43) < (t114.size : Int) := of_decide_eq_true (by first | (with_reducible assumption) | assumption)
                                                    have hx52 := bt_at t114 (ji43)
                                                    replace p52 := eq_true p52
                                                    replace q52 := eq_true q52
                                                    have p56 : 0 ≤ ((ji53) : Int) := of_decide_eq_true (by first | (with_reducible assumption) | assumption)
                                                    have q56 : (ji53) < (t114.size : Int) := of_decide_eq_true (by first | (with_reducible assumption) | assumption)
                                                    have hx56 := bt_at t114 (ji53)
                                                    replace p56 := eq_true p56
                                                    replace q56 := eq_true q56
                                                    have p58 : 0 ≤ ((ji53) : Int) := of_decide_eq_true (by first | (with_reducible assumption) | assumption)
                                                    have q58 : (ji53) < (t114.size : Int) := of_decide_eq_true (by first | (with_reducible assumption) | assumption)
                                                    have hx58 := bt_at t114 (ji53)
                                                    replace p58 := eq_true p58
                                                    replace q58 := eq_true q58
                                                    have p62 : 0 ≤ ((ji59) : Int) := of_decide_eq_true (by first | (with_reducible assumption) | assumption)
                                                    have q62 : (ji59) < (t114.size : Int) := of_decide_eq_true (by first | (with_reducible assumption) | assumption)
                                                    have hx62 := bt_at t114 (ji59)
                                                    replace p62 := eq_true p62
                                                    replace q62 := eq_true q62
                                                    go_wp2
                                                    repeat (go_quiet (fail); try go_wp2)
                                                    go_ret
                                                    exact ⟨by first | rfl | (simp [errW_none, errW_some] <;> rfl) | (simp only [← hji43, ← hji47, ← hji53, ← hji59]; first | rfl | (simp [errW_none, errW_some] <;> rfl)) | (simp [*, errW_none, errW_some] <;> rfl), by repeat (first | (with_reducible first | exact HB.out | apply below_alloc | apply pw_below_drewN | apply below_drew1) | exact HB.out)⟩
                                                · rw [if_neg c61] at H
                                                  exact absurd H (by simp)
                                              · rw [if_neg c60] at H
                                                exact absurd H (by simp)
                                            · rw [if_neg c57] at H
                                              have c57b0 : ((bt t114 (ji43)) == (bt t114 (ji53))) = false := beq_eq_false_iff_ne.mpr c57
                                              have c57b1 : ((bt t114 (ji43)) != (bt t114 (ji53))) = true := bne_iff_ne.mpr c57
                                              obtain rfl := Option.some.inj H
                                              have p46 : 0 ≤ ((ji43) : Int) := of_decide_eq_true (by first | (with_reducible assumption) | assumption)
                                              have q46 : (ji43) < (t114.size : Int) := of_decide_eq_true (by first | (with_reducible assumption) | assumption)
                                              have hx46 := bt_at t114 (ji43)
                                              replace p46 := eq_true p46
                                              replace q46 := eq_true q46
                                              have p50 : 0 ≤ ((ji47) : Int) := of_decide_eq_true (by first | (with_reducible assumption) | assumption)
                                              have q50 : (ji47) < (t114.size : Int) := of_decide_eq_true (by first | (with_reducible assumption) | assumption)
                                              have hx50 := bt_at t114 (ji47)
                                              replace p50 := eq_true p50
                                              replace q50 := eq_true q50
                                              have p52 : 0 ≤ ((ji43) : Int) := of_decide_eq_true (by first | (with_reducible assumption) | assumption)
                                              have q52 : (ji43) < (t114.size : Int) := of_decide_eq_true (by first | (with_reducible assumption) | assumption)
                                              have hx52 := bt_at t114 (ji43)
                                              replace p52 := eq_true p52
                                              replace q52 := eq_true q52
                                              have p56 : 0 ≤ ((ji53) : Int) := of_decide_eq_true (by first | (with_reducible assumption) | assumption)
                                              have q56 : (ji53) < (t114.size : Int) := of_decide_eq_true (by first | (with_reducible assumption) | assumption)
                                              have hx56 := bt_at t114 (ji53)
                                              replace p56 := eq_true p56
                                              replace q56 := eq_true q56
                                              go_wp2
                                              repeat (go_quiet (fail); try go_wp2)
                                              go_ret
                                              exact ⟨by first | rfl | (simp [errW_none, errW_some] <;> rfl) | (simp only [← hji43, ← hji47, ← hji53]; first | rfl | (simp [errW_none, errW_some] <;> rfl)) | (simp [*, errW_none, errW_some] <;> rfl), by repeat (first | (with_reducible first | exact HB.out | apply below_alloc | apply pw_below_drewN | apply below_drew1) | exact HB.out)⟩
                                          · rw [if_neg c55] at H
                                            exact absurd H (by simp)
                                        · rw [if_neg c54] at H
                                          exact absurd H (by simp)
                                      · rw [if_neg c51] at H
                                        have c51b0 : ((bt t114 (ji43)) == (bt t114 (ji47))) = false := beq_eq_false_iff_ne.mpr c51
                                        have c51b1 : ((bt t114 (ji43)) != (bt t114 (ji47))) = true := bne_iff_ne.mpr c51
                                        obtain rfl := Option.some.inj H
                                        have p46 : 0 ≤ ((ji43) : Int) := of_decide_eq_true (by first | (with_reducible assumption) | assumption)
                                        have q46 : (ji43) < (t114.size : Int) := of_decide_eq_true (by first | (with_reducible assumption) | assumption)
                                        have hx46 := bt_at t114 (ji43)
                                        replace p46 := eq_true p46
                                        replace q46 := eq_true q46
                                        have p50 : 0 ≤ ((ji47) : Int) := of_decide_eq_true (by first | (with_reducible assumption) | assumption)
                                        have q50 : (ji47) < (t114.size : Int) := of_decide_eq_true (by first | (with_reducible assumption) | assumption)
                                        have hx50 := bt_at t114 (ji47)
                                        replace p50 := eq_true p50
                                        replace q50 := eq_true q50
                                        go_wp2
                                        repeat (go_quiet (fail); try go_wp2)
                                        go_ret
                                        exact ⟨by first | rfl | (simp [errW_none, errW_some] <;> rfl) | (simp only [← hji43, ← hji47]; first | rfl | (simp [errW_none, errW_some] <;> rfl)) | (simp [*, errW_none, errW_some] <;> rfl), by repeat (first | (with_reducible first | exact HB.out | apply below_alloc | apply pw_below_drewN | apply below_drew1) | exact HB.out)⟩
                                    · rw [if_neg c49] at H
                                      exact absurd H (by simp)
                                  · rw [if_neg c48] at H
                                    exact absurd H (by simp)
                                · rw [if_neg c45] at H
                                  exact absurd H (by simp)
                              · rw [if_neg c44] at H
                                exact absurd H (by simp)
                            · rw [if_neg c42] at H
                              have c42b0 : decide (5 < (t114.size : Int)) = false := decide_eq_false c42
                              have c42b1 : decide (5 < t114.size) = false := decide_eq_false (by omega)
                              clear c42
                              obtain rfl := Option.some.inj H
                              go_wp2
                              repeat (go_quiet (fail); try go_wp2)
                              go_ret
                              exact ⟨by first | rfl | (simp [errW_none, errW_some] <;> rfl) | (simp [*, errW_none, errW_some] <;> rfl), by repeat (first | (with_reducible first | exact HB.out | apply below_alloc | apply pw_below_drewN | apply below_drew1) | exact HB.out)⟩
                          · rw [if_neg c41] at H
                            have c41b0 : (x11_2 == 1) = false := beq_eq_false_iff_ne.mpr c41
                            have c41b1 : (x11_2 != 1) = true := bne_iff_ne.mpr c41
                            obtain rfl := Option.some.inj H
                            go_wp2
                            repeat (go_quiet (fail); try go_wp2)
                            go_ret
                            exact ⟨by first | rfl | (simp [errW_none, errW_some] <;> rfl) | (simp [*, errW_none, errW_some] <;> rfl), by repeat (first | (with_reducible first | exact HB.out | apply below_alloc | apply pw_below_drewN | apply below_drew1) | exact HB.out)⟩
                        · rw [if_neg c40] at H
                          have c40b0 : decide (0 < (t114.size : Int)) = false := decide_eq_false c40
                          have c40b1 : decide (0 < t114.size) = false := decide_eq_false (by omega)
                          clear c40
                          obtain rfl := Option.some.inj H
                          go_wp2
                          repeat (go_quiet (fail); try go_wp2)
                          go_ret
                          exact ⟨by first | rfl | (simp [errW_none, errW_some] <;> rfl) | (simp [*, errW_none, errW_some] <;> rfl), by repeat (first | (with_reducible first | exact HB.out | apply below_alloc | apply pw_below_drewN | apply below_drew1) | exact HB.out)⟩
    · rw [if_neg c8] at H
      exact absurd H (by simp)
  · replace c5 := Bool.eq_false_iff.mpr c5
    subst c5
    have H1 : (some false) = some r := by rw [if_neg (show ¬ (false = true) by decide)] at H; exact H
    clear H
    have H := H1
    clear H1
    obtain rfl := Option.some.inj H
    go_enter Try.func3, Try.ntmps3
    go_wp2_with (first | (go_at_call 9; (with_reducible refine (ostinatolaw2_known.calls  false _ A4.out).mono ?_); rintro e w77 ⟨rfl, hb⟩; have n0_ := Aside0.mk (below_step (by repeat (first | (with_reducible first | exact HB.out | apply below_alloc | apply pw_below_drewN | apply below_drew1) | exact HB.out)) hb); clear HB; have HB := n0_; clear n0_; (try clear hb); (try clear hb2); (try clear hk); (try clear hi)))
    repeat (go_quiet (first | (go_at_call 9; (with_reducible refine (ostinatolaw2_known.calls  false _ A4.out).mono ?_); rintro e w77 ⟨rfl, hb⟩; have n0_ := Aside0.mk (below_step (by repeat (first | (with_reducible first | exact HB.out | apply below_alloc | apply pw_below_drewN | apply below_drew1) | exact HB.out)) hb); clear HB; have HB := n0_; clear n0_; (try clear hb); (try clear hb2); (try clear hk); (try clear hi))); try go_wp2_with (first | (go_at_call 9; (with_reducible refine (ostinatolaw2_known.calls  false _ A4.out).mono ?_); rintro e w77 ⟨rfl, hb⟩; have n0_ := Aside0.mk (below_step (by repeat (first | (with_reducible first | exact HB.out | apply below_alloc | apply pw_below_drewN | apply below_drew1) | exact HB.out)) hb); clear HB; have HB := n0_; clear n0_; (try clear hb); (try clear hb2); (try clear hk); (try clear hi))))
    go_ret
    exact ⟨by first | rfl | (simp [errW_none, errW_some] <;> rfl) | (simp [*, errW_none, errW_some] <;> rfl), by repeat (first | (with_reducible first | exact HB.out | apply below_alloc | apply pw_below_drewN | apply below_drew1) | exact HB.out)⟩

/-- THE ONE PURE STATEMENT of ostinatolaw2_StuffBack: yours. -/
def ostinatolaw2_StuffBack.Pure : Prop := ∀ (a0 : Int) (a1 : Int) (a2 : Int), (Lit.int .u64 a0).wf = true → (Lit.int .u64 a1).wf = true → (Lit.int .u8 a2).wf = true → ∃ k, ostinatolaw2_StuffBack.f k a0 a1 a2 = some true
theorem ostinatolaw2_StuffBack.walk (P : ostinatolaw2_StuffBack.Pure) (a0 : Int) (a1 : Int) (a2 : Int) (w : World) (w0 : (Lit.int .u64 a0).wf = true) (w1 : (Lit.int .u64 a1).wf = true) (w2 : (Lit.int .u8 a2).wf = true) :
    Calls Try.prog 3 #[.int .u64 a0, .int .u64 a1, .int .u8 a2] w fun e w' => e = .returned (.bool true) ∧ Below w.heap.size w w' := by
  obtain ⟨k, h⟩ := P a0 a1 a2 w0 w1 w2
  refine (ostinatolaw2_StuffBack.calls k a0 a1 a2 true w h).mono ?_
  rintro e w' ⟨rfl, hd⟩
  exact ⟨rfl, hd⟩

end Go.Proofs.Ytkclgfjfmlogmaa.QStuffBack
