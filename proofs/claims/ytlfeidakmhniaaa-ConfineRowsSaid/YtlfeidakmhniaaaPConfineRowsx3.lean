-- PRINTED BY print.sh 35421559b90ae4d0a3588c463048766b98c2df88dd9212a6774a882060cdf62d: not written by this session
import Derived.Test.YtlfeidakmhniaaaPConfineRowsx0
import Derived.Test.YtlfeidakmhniaaaPConfineRowsx1
import Derived.Test.YtlfeidakmhniaaaPConfineRowsx2
namespace Go.Proofs.Ytlfeidakmhniaaa.PConfineRows
open Go.RowKit Go.Proofs.YtlfeidakmhniaaaW.PrintWords Go.Proofs.YtlfeidakmhniaaaW.PrintLast Go.Proofs.YtlfeidakmhniaaaW.PrintMore
attribute [local go_sem] max2_int min2_int max_two min_two max_three min_three max_four min_four   -- for this text's walks alone
set_option linter.unusedVariables false
set_option linter.unusedSimpArgs false

attribute [local go_sem high] eqA32
/-! ### ostinatolaw5_ConfineRows: function 6 -/
mutual
def ostinatolaw5_ConfineRows.l0 : Nat → List Int → Int → Int → Int → Int → Int → Option (Bool)
  | 0, _, _, _, _, _, _ => none
  | k + 1, x0, x4, x5, x6, x125000, x125001 => if x6 < (x0.length : Int) then (if 0 ≤ x6 then (if (Int.tmod (rd x0 x6) 4) = 0 then ((confine_Sent.f x125000 x125001 true).bind fun bt126 => (ostinatolaw5_ConfineRows.j1 k x0 (mx 0 (wrap64 (x4 - 1))) x5 x6 bt126.1 bt126.2)) else (if (Int.tmod (rd x0 x6) 4) = 1 then ((confine_Sent.f x125000 x125001 false).bind fun bt128 => (ostinatolaw5_ConfineRows.j1 k x0 (mn 1000 (wrap64 (x4 + 8))) x5 x6 bt128.1 bt128.2)) else (if (Int.tmod (rd x0 x6) 4) = 2 then (if x5 > 127 then ((confine_Got.f x125000 x125001 true).bind fun bt130 => (ostinatolaw5_ConfineRows.j1 k x0 x4 (mx 0 (121 - 1)) x6 bt130.1 bt130.2)) else ((confine_Got.f x125000 x125001 true).bind fun bt132 => (ostinatolaw5_ConfineRows.j1 k x0 x4 (mx 0 (wrap64 (x5 - 1))) x6 bt132.1 bt132.2))) else ((confine_Got.f x125000 x125001 false).bind fun bt134 => (ostinatolaw5_ConfineRows.j1 k x0 x4 (mn 1000 (wrap64 (x5 + 1))) x6 bt134.1 bt134.2))))) else (none)) else (some true)
def ostinatolaw5_ConfineRows.j1 : Nat → List Int → Int → Int → Int → Int → Int → Option (Bool)
  | 0, _, _, _, _, _, _ => none
  | k + 1, x0, x4, x5, x6, x125000, x125001 => if (!(x125000 == x4) || (!(x125001 == x5))) = true then (some false) else ((confine_IsOff.f x125000 x125001).bind fun t136 => (if (t136 != (decide (x4 ≥ 256))) = true then (some false) else ((confine_IsPassive.f x125000 x125001).bind fun t137 => (if x4 < 256 then (if x4 ≥ 128 then (if (t137 != true) = true then (some false) else ((confine_Is.f x125000 x125001).bind fun t138 => (if t138 = true then (ostinatolaw5_ConfineRows.l0 k x0 x4 x5 (wrap64 (x6 + 1)) x125000 x125001) else (some false)))) else (if (t137 != (decide (x5 ≥ 128))) = true then (some false) else ((confine_Is.f x125000 x125001).bind fun t139 => (if t139 = true then (ostinatolaw5_ConfineRows.l0 k x0 x4 x5 (wrap64 (x6 + 1)) x125000 x125001) else (some false))))) else (if (t137 != false) = true then (some false) else ((confine_Is.f x125000 x125001).bind fun t140 => (if t140 = true then (ostinatolaw5_ConfineRows.l0 k x0 x4 x5 (wrap64 (x6 + 1)) x125000 x125001) else (some false))))))))
end
def ostinatolaw5_ConfineRows.f (k : Nat) (l0 : List Int) : Option (Bool) := (ostinatolaw5_known.f k).bind fun t123 => (if t123 = true then (if (l0.length : Int) > 300 then (some true) else (ostinatolaw5_ConfineRows.l0 k l0 0 0 0 0 0)) else (some false))
theorem ostinatolaw5_ConfineRows.mono_l : ∀ k, (∀ y0 y1 y2 y3 y4 y5, LeO (ostinatolaw5_ConfineRows.l0 k y0 y1 y2 y3 y4 y5) (ostinatolaw5_ConfineRows.l0 (k + 1) y0 y1 y2 y3 y4 y5)) ∧ (∀ y0 y1 y2 y3 y4 y5, LeO (ostinatolaw5_ConfineRows.j1 k y0 y1 y2 y3 y4 y5) (ostinatolaw5_ConfineRows.j1 (k + 1) y0 y1 y2 y3 y4 y5))
  | 0 => ⟨fun _ _ _ _ _ _ r h => by simp [ostinatolaw5_ConfineRows.l0] at h, fun _ _ _ _ _ _ r h => by simp [ostinatolaw5_ConfineRows.j1] at h⟩
  | k + 1 => by
    obtain ⟨ih0, ih1⟩ := ostinatolaw5_ConfineRows.mono_l k
    refine ⟨?_, ?_⟩
    · intro y0 y1 y2 y3 y4 y5
      unfold ostinatolaw5_ConfineRows.l0
      repeat' first
      | (with_reducible exact ih0 _ _ _ _ _ _)
      | (with_reducible exact ih1 _ _ _ _ _ _)
      | (with_reducible exact ostinatolaw5_known.mono _)
      | (with_reducible exact LeO.refl _)
      | (with_reducible exact LeO.none _)
      | (with_reducible refine LeO.ite ?_ ?_)
      | (with_reducible refine LeO.bind ?_ (fun _ => ?_))
      | exact ih0 _ _ _ _ _ _
      | exact ih1 _ _ _ _ _ _
      | exact ostinatolaw5_known.mono _
      | exact LeO.none _
      | refine LeO.ite ?_ ?_
      | refine LeO.bind ?_ (fun _ => ?_)
    · intro y0 y1 y2 y3 y4 y5
      unfold ostinatolaw5_ConfineRows.j1
      repeat' first
      | (with_reducible exact ih0 _ _ _ _ _ _)
      | (with_reducible exact ih1 _ _ _ _ _ _)
      | (with_reducible exact ostinatolaw5_known.mono _)
      | (with_reducible exact LeO.refl _)
      | (with_reducible exact LeO.none _)
      | (with_reducible refine LeO.ite ?_ ?_)
      | (with_reducible refine LeO.bind ?_ (fun _ => ?_))
      | exact ih0 _ _ _ _ _ _
      | exact ih1 _ _ _ _ _ _
      | exact ostinatolaw5_known.mono _
      | exact LeO.none _
      | refine LeO.ite ?_ ?_
      | refine LeO.bind ?_ (fun _ => ?_)
theorem ostinatolaw5_ConfineRows.mono : ∀ a0 k, LeO (ostinatolaw5_ConfineRows.f k a0) (ostinatolaw5_ConfineRows.f (k + 1) a0) := by
  intro a0 k
  obtain ⟨ih0, ih1⟩ := ostinatolaw5_ConfineRows.mono_l k
  unfold ostinatolaw5_ConfineRows.f
  repeat' first
      | (with_reducible exact ih0 _ _ _ _ _ _)
      | (with_reducible exact ih1 _ _ _ _ _ _)
      | (with_reducible exact ostinatolaw5_known.mono _)
      | (with_reducible exact LeO.refl _)
      | (with_reducible exact LeO.none _)
      | (with_reducible refine LeO.ite ?_ ?_)
      | (with_reducible refine LeO.bind ?_ (fun _ => ?_))
      | exact ih0 _ _ _ _ _ _
      | exact ih1 _ _ _ _ _ _
      | exact ostinatolaw5_known.mono _
      | exact LeO.none _
      | refine LeO.ite ?_ ?_
      | refine LeO.bind ?_ (fun _ => ?_)
set_option maxHeartbeats 8000000 in
set_option maxRecDepth 100000 in
theorem ostinatolaw5_ConfineRows.calls (k : Nat) (A0 : Option Addr) (c0 : Nat) (l0 : List Int) (r : Bool) (w : World) (hr0 : Kd.C (Kd.int .u8) w A0 l0.length l0) (hc0 : l0.length ≤ c0) (h : ostinatolaw5_ConfineRows.f k l0 = some r) :
    Calls Try.prog 6 #[.slice A0 l0.length c0] w fun e w' => e = .returned (.bool r) ∧ Below w.heap.size w w' := by
  have hu32 := Try.underlying32
  have HR0 := Aside0.mk hr0
  have HC0 := Aside0.mk hc0
  clear hr0 hc0
  have HB := Aside0.mk (Below.refl w.heap.size w)
  have H : ((ostinatolaw5_known.f k).bind fun t123 => (if t123 = true then (if (l0.length : Int) > 300 then (some true) else (ostinatolaw5_ConfineRows.l0 k l0 0 0 0 0 0)) else (some false))) = some r := h
  clear h
  replace H := Option.bind_eq_some_iff.mp H
  obtain ⟨t123, A20, H⟩ := H
  replace H : (if t123 = true then (if (l0.length : Int) > 300 then (some true) else (ostinatolaw5_ConfineRows.l0 k l0 0 0 0 0 0)) else (some false)) = some r := H
  have A2 := Aside0.mk A20
  clear A20
  by_cases c3 : t123 = true
  · subst c3
    have H1 : (if (l0.length : Int) > 300 then (some true) else (ostinatolaw5_ConfineRows.l0 k l0 0 0 0 0 0)) = some r := by rw [if_pos rfl] at H; exact H
    clear H
    have H := H1
    clear H1
    by_cases c4 : (l0.length : Int) > 300
    · rw [if_pos c4] at H
      have c4b0 : decide (300 < (l0.length : Int)) = true := decide_eq_true c4
      have c4b1 : decide (300 < l0.length) = true := decide_eq_true (by omega)
      clear c4
      obtain rfl := Option.some.inj H
      go_enter Try.func6, Try.ntmps6
      go_wp2_with (first | ((with_reducible refine gate_callee (f := 17) rfl ?_); refine goesL_ (some 7) rfl rfl Try.func17 (by kernel_rfl) rfl #[] rfl (by (try simp only [List.map_toArray, List.map_cons, List.map_nil]); first | done | rfl | (simp only [List.length_drop, List.length_take]; rfl)) ?_; (with_reducible refine (ostinatolaw5_known.calls k  true _ A2.out).mono ?_); rintro e w5 ⟨rfl, hb⟩; refine ⟨_, rfl, ?_⟩; have n0_ := Aside0.mk (below_step (by repeat (first | (with_reducible first | exact HB.out | apply below_alloc | apply pw_below_drewN | apply below_drew1) | exact HB.out)) hb); clear HB; have HB := n0_; clear n0_; (try clear hb); (try clear hb2); (try clear hk); (try clear hi)))
      go_ret
      exact ⟨by first | rfl | (simp [errW_none, errW_some] <;> rfl) | (simp [*, errW_none, errW_some] <;> rfl), by repeat (first | (with_reducible first | exact HB.out | apply below_alloc | apply pw_below_drewN | apply below_drew1) | exact HB.out)⟩
    · rw [if_neg c4] at H
      have c4b0 : decide (300 < (l0.length : Int)) = false := decide_eq_false c4
      have c4b1 : decide (300 < l0.length) = false := decide_eq_false (by omega)
      clear c4
      have H' := Aside0.mk H
      clear H
      go_enter Try.func6, Try.ntmps6
      go_wp2_with (first | ((with_reducible refine gate_callee (f := 17) rfl ?_); refine goesL_ (some 7) rfl rfl Try.func17 (by kernel_rfl) rfl #[] rfl (by (try simp only [List.map_toArray, List.map_cons, List.map_nil]); first | done | rfl | (simp only [List.length_drop, List.length_take]; rfl)) ?_; (with_reducible refine (ostinatolaw5_known.calls k  true _ A2.out).mono ?_); rintro e w6 ⟨rfl, hb⟩; refine ⟨_, rfl, ?_⟩; have n0_ := Aside0.mk (below_step (by repeat (first | (with_reducible first | exact HB.out | apply below_alloc | apply pw_below_drewN | apply below_drew1) | exact HB.out)) hb); clear HB; have HB := n0_; clear n0_; (try clear hb); (try clear hb2); (try clear hk); (try clear hi)) | ((with_reducible refine gate_dst (N := 3) rfl ?_); refine box_event ?hg (N := 3) ?hd (cs := #[.int .i64 0, .int .i64 0]) (t := 32) ?hr ?_; (case hd => rfl); (case hg => rfl); (case hr => first | (go_simp; done) | (go_simp; rfl)); intro gb124 hg w7 hbox hb; have n0_ := Aside0.mk (below_step (by repeat (first | (with_reducible first | exact HB.out | apply below_alloc | apply pw_below_drewN | apply below_drew1) | exact HB.out)) hb); have n1_ := Aside0.mk (hbox); have n2_ := Aside0.mk ((by rw [hg]; exact (below_size (by repeat (first | (with_reducible first | exact HB.out | apply below_alloc | apply pw_below_drewN | apply below_drew1) | exact HB.out))) : w.heap.size ≤ gb124)); have n3_ := Aside0.mk ((by rw [hg]; exact (below_size (by repeat (first | (with_reducible first | exact HB.out | apply below_alloc | apply pw_below_drewN | apply below_drew1) | exact HB.out))) : w.heap.size ≤ gb124)); clear HB; have HB := n0_; have BK124 := n1_; have GW124 := n2_; have GE124 := n3_; clear n0_ n1_ n2_ n3_; clear hb hbox hg; have hcz8_0 : w7.cell? ⟨gb124, 0, none⟩ = some (.int .i64 0) := (blk_cell BK124.out 0).trans rfl; have hcz8_1 : w7.cell? ⟨gb124, 1, none⟩ = some (.int .i64 0) := (blk_cell BK124.out 1).trans rfl; have hfz8_0 := blk_frozen BK124.out 0; have hfz8_1 := blk_frozen BK124.out 1))
      go_loopg [4, 5, 6] k (fun kq v4 v5 v6 w' => ∃ (x4_1 : Int) (x5_1 : Int) (x6_1 : Int) (x125000_1 : Int) (x125001_1 : Int), v4 = .int .i64 x4_1 ∧ v5 = .int .i64 x5_1 ∧ v6 = .int .i64 x6_1 ∧ Aside0 (ostinatolaw5_ConfineRows.l0 kq l0 x4_1 x5_1 x6_1 x125000_1 x125001_1 = some r) ∧ Aside0 (kq ≤ k) ∧ Aside0 (w'.heap[gb124]? = some (.cells #[.int .i64 x125000_1, .int .i64 x125001_1] 32 (0, 0))) ∧ Aside0 (Below w.heap.size w w'))
      case atStart => exact ⟨(0), (0), (0), (0), (0), (by first | rfl | (simp; done) | (simp [*]; done)), (by first | rfl | (simp; done) | (simp [*]; done)), (by first | rfl | (simp; done) | (simp [*]; done)), H', ⟨Nat.le_refl _⟩, ⟨by (with_reducible repeat (first | refine blk_drewN ?_ _ | refine blk_drew ?_ | refine blk_alloc ?_ _)); refine blk_put (cs := #[.int .i64 0, .int .i64 0]) ?_ 1 _ rfl; (with_reducible repeat (first | refine blk_drewN ?_ _ | refine blk_drew ?_ | refine blk_alloc ?_ _)); refine blk_put (cs := #[.int .i64 0, .int .i64 0]) ?_ 0 _ rfl; (with_reducible repeat (first | refine blk_drewN ?_ _ | refine blk_drew ?_ | refine blk_alloc ?_ _)); exact BK124.out⟩, ⟨by repeat (first | (with_reducible first | exact HB.out | apply below_alloc | apply pw_below_drewN | apply below_drew1 | refine below_set ?_ GE124.out) | exact HB.out)⟩⟩
      case round =>
        clear H'
        try clear c1
        try clear p2
        try clear c3
        try clear c4
        try clear c4b0
        try clear c4b1
        try clear c6
        try clear hcz8_0
        try clear hcz8_1
        try clear hfz8_0
        try clear hfz8_1
        obtain ⟨x4_1, x5_1, x6_1, x125000_1, x125001_1, rfl, rfl, rfl, HA, HK1, BK124, HB⟩ := hrel
        cases gk with
        | zero => exact absurd HA.out (by simp [ostinatolaw5_ConfineRows.l0])
        | succ k1 =>
          have H := HA.out
          clear HA
          simp only [ostinatolaw5_ConfineRows.l0] at H
          by_cases c9 : x6_1 < (l0.length : Int)
          · rw [if_pos c9] at H
            have c9b0 : decide (x6_1 < (l0.length : Int)) = true := decide_eq_true c9
            clear c9
            by_cases c10 : 0 ≤ x6_1
            · rw [if_pos c10] at H
              have c10b0 : decide (0 ≤ x6_1) = true := decide_eq_true c10
              clear c10
              have HC11 := Aside0.mk H
              clear H
              have p125 : 0 ≤ (x6_1 : Int) := of_decide_eq_true (by first | (with_reducible assumption) | assumption)
              have q125 : x6_1 < (l0.length : Int) := of_decide_eq_true (by first | (with_reducible assumption) | assumption)
              obtain ⟨ad125, e125, hx125_0⟩ := Kd.at_int HR0.out x6_1 p125 q125
              cases e125
              replace hx125_0 := (HB.out.cell (World.block_lt_of_cell? w _ hx125_0)).trans hx125_0
              replace p125 := eq_true p125
              replace q125 := eq_true q125
              go_upto_block 2 with (fail)
              go_cut [4, 5] (fun v4 v5 wc => ∃ (kq : Nat) (x4_10 : Int) (x5_10 : Int) (x125000_10 : Int) (x125001_10 : Int), v4 = .int .i64 x4_10 ∧ v5 = .int .i64 x5_10 ∧ Aside0 (ostinatolaw5_ConfineRows.j1 kq l0 x4_10 x5_10 x6_1 x125000_10 x125001_10 = some r) ∧ Aside0 (kq ≤ k1) ∧ Aside0 (wc.heap[gb124]? = some (.cells #[.int .i64 x125000_10, .int .i64 x125001_10] 32 (0, 0))) ∧ Aside0 (Below w.heap.size w wc))
              case first =>
                have H := HC11.out
                clear HC11
                by_cases c12 : (Int.tmod (rd l0 x6_1) 4) = 0
                · rw [if_pos c12] at H
                  have c12b0 : ((Int.tmod (rd l0 x6_1) 4) == 0) = true := beq_iff_eq.mpr c12
                  have c12b1 : ((Int.tmod (rd l0 x6_1) 4) != 0) = false := bne_eq_false_iff_eq.mpr c12
                  clear c12
                  (first | rw [c12b0] | (simp only [i64_w, i32_w]; rw [c12b0]) | skip)
                  replace H := Option.bind_eq_some_iff.mp H
                  obtain ⟨⟨t126, t127⟩, A130, H⟩ := H
                  replace H : (ostinatolaw5_ConfineRows.j1 k1 l0 (mx 0 (wrap64 (x4_1 - 1))) x5_1 x6_1 t126 t127) = some r := H
                  have A13 := Aside0.mk A130
                  clear A130
                  obtain ⟨ji14, hji14⟩ : ∃ j_ : Int, (mx 0 (wrap64 (x4_1 - 1))) = j_ := ⟨_, rfl⟩
                  replace H : (ostinatolaw5_ConfineRows.j1 k1 l0 ji14 x5_1 x6_1 t126 t127) = some r := by first | (rw [hji14] at H; exact H) | (simp only [hji14] at H ⊢; exact H)
                  (try rw [hji14] at A13)
                  have hji14_ : (if 0 < (wrap64 (x4_1 - 1)) then (wrap64 (x4_1 - 1)) else 0) = ji14 := hji14
                  have H' := Aside0.mk H
                  clear H
                  have hcz15_0 : wr.cell? ⟨gb124, 0, none⟩ = some (.int .i64 x125000_1) := (blk_cell BK124.out 0).trans rfl
                  have hcz15_1 : wr.cell? ⟨gb124, 1, none⟩ = some (.int .i64 x125001_1) := (blk_cell BK124.out 1).trans rfl
                  have hfz15_0 := blk_frozen BK124.out 0
                  have hfz15_1 := blk_frozen BK124.out 1
                  go_wp2_with (first | ((with_reducible refine gate_callee (f := 19) rfl ?_); refine goesL_ (some 32) rfl rfl Try.func19 (by kernel_rfl) rfl #[.agg #[.int .i64 x125000_1, .int .i64 x125001_1], .bool true] rfl (by (try simp only [List.map_toArray, List.map_cons, List.map_nil]); first | done | rfl | (simp only [List.length_drop, List.length_take]; rfl)) ?_; (with_reducible refine (confine_Sent.calls x125000_1 x125001_1 true t126 t127 _ A13.out).mono ?_); rintro e w16 ⟨rfl, hb⟩; refine ⟨_, rfl, ?_⟩; have n0_ := Aside0.mk (blk_below (g := gb124) (o := .cells #[.int .i64 x125000_1, .int .i64 x125001_1] 32 (0, 0)) (by (with_reducible repeat (first | refine blk_drewN ?_ _ | refine blk_drew ?_ | refine blk_alloc ?_ _)); exact BK124.out) hb); have n1_ := Aside0.mk (below_step (by repeat (first | (with_reducible first | exact HB.out | apply below_alloc | apply pw_below_drewN | apply below_drew1 | refine below_set ?_ GE124.out) | exact HB.out)) hb); clear BK124; clear HB; have BK124 := n0_; have HB := n1_; clear n0_ n1_; (try clear hb); (try clear hb2); (try clear hk); (try clear hi); have hcz17_0 : w16.cell? ⟨gb124, 0, none⟩ = some (.int .i64 x125000_1) := (blk_cell BK124.out 0).trans rfl; have hcz17_1 : w16.cell? ⟨gb124, 1, none⟩ = some (.int .i64 x125001_1) := (blk_cell BK124.out 1).trans rfl; have hfz17_0 := blk_frozen BK124.out 0; have hfz17_1 := blk_frozen BK124.out 1))
                  go_meet
                  case rel => exact ⟨_, (ji14), (x5_1), (t126), (t127), (by first | rfl | (simp; done) | (simp only [← hji14] <;> (first | rfl | simp)) | (simp [*]; done)), (by first | rfl | (simp; done) | (simp [*]; done)), H', ⟨by have := HK1.out; first | omega | exact Nat.le_refl _⟩, ⟨by (with_reducible repeat (first | refine blk_drewN ?_ _ | refine blk_drew ?_ | refine blk_alloc ?_ _)); refine blk_put (cs := #[.int .i64 t126, .int .i64 x125001_1]) ?_ 1 _ rfl; (with_reducible repeat (first | refine blk_drewN ?_ _ | refine blk_drew ?_ | refine blk_alloc ?_ _)); refine blk_put (cs := #[.int .i64 x125000_1, .int .i64 x125001_1]) ?_ 0 _ rfl; (with_reducible repeat (first | refine blk_drewN ?_ _ | refine blk_drew ?_ | refine blk_alloc ?_ _)); exact BK124.out⟩, ⟨by repeat (first | (with_reducible first | exact HB.out | apply below_alloc | apply pw_below_drewN | apply below_drew1 | refine below_set ?_ GE124.out) | exact HB.out)⟩⟩
                · rw [if_neg c12] at H
                  have c12b0 : ((Int.tmod (rd l0 x6_1) 4) == 0) = false := beq_eq_false_iff_ne.mpr c12
                  have c12b1 : ((Int.tmod (rd l0 x6_1) 4) != 0) = true := bne_iff_ne.mpr c12
                  (first | rw [c12b0] | (simp only [i64_w, i32_w]; rw [c12b0]) | skip)
                  by_cases c18 : (Int.tmod (rd l0 x6_1) 4) = 1
                  · rw [if_pos c18] at H
                    have c18b0 : ((Int.tmod (rd l0 x6_1) 4) == 1) = true := beq_iff_eq.mpr c18
                    have c18b1 : ((Int.tmod (rd l0 x6_1) 4) != 1) = false := bne_eq_false_iff_eq.mpr c18
                    clear c18
                    replace H := Option.bind_eq_some_iff.mp H
                    obtain ⟨⟨t128, t129⟩, A190, H⟩ := H
                    replace H : (ostinatolaw5_ConfineRows.j1 k1 l0 (mn 1000 (wrap64 (x4_1 + 8))) x5_1 x6_1 t128 t129) = some r := H
                    have A19 := Aside0.mk A190
                    clear A190
                    obtain ⟨ji20, hji20⟩ : ∃ j_ : Int, (mn 1000 (wrap64 (x4_1 + 8))) = j_ := ⟨_, rfl⟩
                    replace H : (ostinatolaw5_ConfineRows.j1 k1 l0 ji20 x5_1 x6_1 t128 t129) = some r := by first | (rw [hji20] at H; exact H) | (simp only [hji20] at H ⊢; exact H)
                    (try rw [hji20] at A19)
                    have hji20_ : (if (wrap64 (x4_1 + 8)) < 1000 then (wrap64 (x4_1 + 8)) else 1000) = ji20 := hji20
                    have H' := Aside0.mk H
                    clear H
                    have hcz21_0 : wr.cell? ⟨gb124, 0, none⟩ = some (.int .i64 x125000_1) := (blk_cell BK124.out 0).trans rfl
                    have hcz21_1 : wr.cell? ⟨gb124, 1, none⟩ = some (.int .i64 x125001_1) := (blk_cell BK124.out 1).trans rfl
                    have hfz21_0 := blk_frozen BK124.out 0
                    have hfz21_1 := blk_frozen BK124.out 1
                    go_wp2_with (first | ((with_reducible refine gate_callee (f := 19) rfl ?_); refine goesL_ (some 39) rfl rfl Try.func19 (by kernel_rfl) rfl #[.agg #[.int .i64 x125000_1, .int .i64 x125001_1], .bool false] rfl (by (try simp only [List.map_toArray, List.map_cons, List.map_nil]); first | done | rfl | (simp only [List.length_drop, List.length_take]; rfl)) ?_; (with_reducible refine (confine_Sent.calls x125000_1 x125001_1 false t128 t129 _ A19.out).mono ?_); rintro e w22 ⟨rfl, hb⟩; refine ⟨_, rfl, ?_⟩; have n0_ := Aside0.mk (blk_below (g := gb124) (o := .cells #[.int .i64 x125000_1, .int .i64 x125001_1] 32 (0, 0)) (by (with_reducible repeat (first | refine blk_drewN ?_ _ | refine blk_drew ?_ | refine blk_alloc ?_ _)); exact BK124.out) hb); have n1_ := Aside0.mk (below_step (by repeat (first | (with_reducible first | exact HB.out | apply below_alloc | apply pw_below_drewN | apply below_drew1 | refine below_set ?_ GE124.out) | exact HB.out)) hb); clear BK124; clear HB; have BK124 := n0_; have HB := n1_; clear n0_ n1_; (try clear hb); (try clear hb2); (try clear hk); (try clear hi); have hcz23_0 : w22.cell? ⟨gb124, 0, none⟩ = some (.int .i64 x125000_1) := (blk_cell BK124.out 0).trans rfl; have hcz23_1 : w22.cell? ⟨gb124, 1, none⟩ = some (.int .i64 x125001_1) := (blk_cell BK124.out 1).trans rfl; have hfz23_0 := blk_frozen BK124.out 0; have hfz23_1 := blk_frozen BK124.out 1))
                    go_meet
                    case rel => exact ⟨_, (ji20), (x5_1), (t128), (t129), (by first | rfl | (simp; done) | (simp only [← hji20] <;> (first | rfl | simp)) | (simp [*]; done)), (by first | rfl | (simp; done) | (simp [*]; done)), H', ⟨by have := HK1.out; first | omega | exact Nat.le_refl _⟩, ⟨by (with_reducible repeat (first | refine blk_drewN ?_ _ | refine blk_drew ?_ | refine blk_alloc ?_ _)); refine blk_put (cs := #[.int .i64 t128, .int .i64 x125001_1]) ?_ 1 _ rfl; (with_reducible repeat (first | refine blk_drewN ?_ _ | refine blk_drew ?_ | refine blk_alloc ?_ _)); refine blk_put (cs := #[.int .i64 x125000_1, .int .i64 x125001_1]) ?_ 0 _ rfl; (with_reducible repeat (first | refine blk_drewN ?_ _ | refine blk_drew ?_ | refine blk_alloc ?_ _)); exact BK124.out⟩, ⟨by repeat (first | (with_reducible first | exact HB.out | apply below_alloc | apply pw_below_drewN | apply below_drew1 | refine below_set ?_ GE124.out) | exact HB.out)⟩⟩
                  · rw [if_neg c18] at H
                    have c18b0 : ((Int.tmod (rd l0 x6_1) 4) == 1) = false := beq_eq_false_iff_ne.mpr c18
                    have c18b1 : ((Int.tmod (rd l0 x6_1) 4) != 1) = true := bne_iff_ne.mpr c18
                    by_cases c24 : (Int.tmod (rd l0 x6_1) 4) = 2
                    · rw [if_pos c24] at H
                      have c24b0 : ((Int.tmod (rd l0 x6_1) 4) == 2) = true := beq_iff_eq.mpr c24
                      have c24b1 : ((Int.tmod (rd l0 x6_1) 4) != 2) = false := bne_eq_false_iff_eq.mpr c24
                      clear c24
                      by_cases c25 : x5_1 > 127
                      · rw [if_pos c25] at H
                        have c25b0 : decide (127 < x5_1) = true := decide_eq_true c25
                        clear c25
                        replace H := Option.bind_eq_some_iff.mp H
                        obtain ⟨⟨t130, t131⟩, A260, H⟩ := H
                        replace H : (ostinatolaw5_ConfineRows.j1 k1 l0 x4_1 (mx 0 (121 - 1)) x6_1 t130 t131) = some r := H
                        have A26 := Aside0.mk A260
                        clear A260
                        obtain ⟨ji27, hji27⟩ : ∃ j_ : Int, (mx 0 (121 - 1)) = j_ := ⟨_, rfl⟩
                        replace H : (ostinatolaw5_ConfineRows.j1 k1 l0 x4_1 ji27 x6_1 t130 t131) = some r := by first | (rw [hji27] at H; exact H) | (simp only [hji27] at H ⊢; exact H)
                        (try rw [hji27] at A26)
                        (try (have hji27h : ji27 ≤ 120 := by (rw [← hji27]; unfold mx; (repeat' split) <;> omega)))
                        (try (have hji27g : ji27 ≤ 64 := by omega))
                        (try (have hji27l : 120 ≤ ji27 := by (rw [← hji27]; unfold mx; (repeat' split) <;> omega)))
                        (try (have hji27m : 0 ≤ ji27 := by omega))
                        have hji27_ : (if 0 < (121 - 1) then (121 - 1) else 0) = ji27 := hji27
                        have H' := Aside0.mk H
                        clear H
                        have hcz28_0 : wr.cell? ⟨gb124, 0, none⟩ = some (.int .i64 x125000_1) := (blk_cell BK124.out 0).trans rfl
                        have hcz28_1 : wr.cell? ⟨gb124, 1, none⟩ = some (.int .i64 x125001_1) := (blk_cell BK124.out 1).trans rfl
                        have hfz28_0 := blk_frozen BK124.out 0
                        have hfz28_1 := blk_frozen BK124.out 1
                        go_wp2_with (first | ((with_reducible refine gate_callee (f := 21) rfl ?_); refine goesL_ (some 48) rfl rfl Try.func21 (by kernel_rfl) rfl #[.agg #[.int .i64 x125000_1, .int .i64 x125001_1], .bool true] rfl (by (try simp only [List.map_toArray, List.map_cons, List.map_nil]); first | done | rfl | (simp only [List.length_drop, List.length_take]; rfl)) ?_; (with_reducible refine (confine_Got.calls x125000_1 x125001_1 true t130 t131 _ A26.out).mono ?_); rintro e w29 ⟨rfl, hb⟩; refine ⟨_, rfl, ?_⟩; have n0_ := Aside0.mk (blk_below (g := gb124) (o := .cells #[.int .i64 x125000_1, .int .i64 x125001_1] 32 (0, 0)) (by (with_reducible repeat (first | refine blk_drewN ?_ _ | refine blk_drew ?_ | refine blk_alloc ?_ _)); exact BK124.out) hb); have n1_ := Aside0.mk (below_step (by repeat (first | (with_reducible first | exact HB.out | apply below_alloc | apply pw_below_drewN | apply below_drew1 | refine below_set ?_ GE124.out) | exact HB.out)) hb); clear BK124; clear HB; have BK124 := n0_; have HB := n1_; clear n0_ n1_; (try clear hb); (try clear hb2); (try clear hk); (try clear hi); have hcz30_0 : w29.cell? ⟨gb124, 0, none⟩ = some (.int .i64 x125000_1) := (blk_cell BK124.out 0).trans rfl; have hcz30_1 : w29.cell? ⟨gb124, 1, none⟩ = some (.int .i64 x125001_1) := (blk_cell BK124.out 1).trans rfl; have hfz30_0 := blk_frozen BK124.out 0; have hfz30_1 := blk_frozen BK124.out 1))
                        go_meet
                        case rel => exact ⟨_, (x4_1), (ji27), (t130), (t131), (by first | rfl | (simp; done) | (simp [*]; done)), (by first | rfl | (simp; done) | (simp only [← hji27] <;> (first | rfl | simp)) | (simp [*]; done)), H', ⟨by have := HK1.out; first | omega | exact Nat.le_refl _⟩, ⟨by (with_reducible repeat (first | refine blk_drewN ?_ _ | refine blk_drew ?_ | refine blk_alloc ?_ _)); refine blk_put (cs := #[.int .i64 t130, .int .i64 x125001_1]) ?_ 1 _ rfl; (with_reducible repeat (first | refine blk_drewN ?_ _ | refine blk_drew ?_ | refine blk_alloc ?_ _)); refine blk_put (cs := #[.int .i64 x125000_1, .int .i64 x125001_1]) ?_ 0 _ rfl; (with_reducible repeat (first | refine blk_drewN ?_ _ | refine blk_drew ?_ | refine blk_alloc ?_ _)); exact BK124.out⟩, ⟨by repeat (first | (with_reducible first | exact HB.out | apply below_alloc | apply pw_below_drewN | apply below_drew1 | refine below_set ?_ GE124.out) | exact HB.out)⟩⟩
                      · rw [if_neg c25] at H
                        have c25b0 : decide (127 < x5_1) = false := decide_eq_false c25
                        clear c25
                        replace H := Option.bind_eq_some_iff.mp H
                        obtain ⟨⟨t132, t133⟩, A310, H⟩ := H
                        replace H : (ostinatolaw5_ConfineRows.j1 k1 l0 x4_1 (mx 0 (wrap64 (x5_1 - 1))) x6_1 t132 t133) = some r := H
                        have A31 := Aside0.mk A310
                        clear A310
                        obtain ⟨ji32, hji32⟩ : ∃ j_ : Int, (mx 0 (wrap64 (x5_1 - 1))) = j_ := ⟨_, rfl⟩
                        replace H : (ostinatolaw5_ConfineRows.j1 k1 l0 x4_1 ji32 x6_1 t132 t133) = some r := by first | (rw [hji32] at H; exact H) | (simp only [hji32] at H ⊢; exact H)
                        (try rw [hji32] at A31)
                        have hji32_ : (if 0 < (wrap64 (x5_1 - 1)) then (wrap64 (x5_1 - 1)) else 0) = ji32 := hji32
                        have H' := Aside0.mk H
                        clear H
                        have hcz33_0 : wr.cell? ⟨gb124, 0, none⟩ = some (.int .i64 x125000_1) := (blk_cell BK124.out 0).trans rfl
                        have hcz33_1 : wr.cell? ⟨gb124, 1, none⟩ = some (.int .i64 x125001_1) := (blk_cell BK124.out 1).trans rfl
                        have hfz33_0 := blk_frozen BK124.out 0
                        have hfz33_1 := blk_frozen BK124.out 1
                        go_wp2_with (first | ((with_reducible refine gate_callee (f := 21) rfl ?_); refine goesL_ (some 48) rfl rfl Try.func21 (by kernel_rfl) rfl #[.agg #[.int .i64 x125000_1, .int .i64 x125001_1], .bool true] rfl (by (try simp only [List.map_toArray, List.map_cons, List.map_nil]); first | done | rfl | (simp only [List.length_drop, List.length_take]; rfl)) ?_; (with_reducible refine (confine_Got.calls x125000_1 x125001_1 true t132 t133 _ A31.out).mono ?_); rintro e w34 ⟨rfl, hb⟩; refine ⟨_, rfl, ?_⟩; have n0_ := Aside0.mk (blk_below (g := gb124) (o := .cells #[.int .i64 x125000_1, .int .i64 x125001_1] 32 (0, 0)) (by (with_reducible repeat (first | refine blk_drewN ?_ _ | refine blk_drew ?_ | refine blk_alloc ?_ _)); exact BK124.out) hb); have n1_ := Aside0.mk (below_step (by repeat (first | (with_reducible first | exact HB.out | apply below_alloc | apply pw_below_drewN | apply below_drew1 | refine below_set ?_ GE124.out) | exact HB.out)) hb); clear BK124; clear HB; have BK124 := n0_; have HB := n1_; clear n0_ n1_; (try clear hb); (try clear hb2); (try clear hk); (try clear hi); have hcz35_0 : w34.cell? ⟨gb124, 0, none⟩ = some (.int .i64 x125000_1) := (blk_cell BK124.out 0).trans rfl; have hcz35_1 : w34.cell? ⟨gb124, 1, none⟩ = some (.int .i64 x125001_1) := (blk_cell BK124.out 1).trans rfl; have hfz35_0 := blk_frozen BK124.out 0; have hfz35_1 := blk_frozen BK124.out 1))
                        go_meet
                        case rel => exact ⟨_, (x4_1), (ji32), (t132), (t133), (by first | rfl | (simp; done) | (simp [*]; done)), (by first | rfl | (simp; done) | (simp only [← hji32] <;> (first | rfl | simp)) | (simp [*]; done)), H', ⟨by have := HK1.out; first | omega | exact Nat.le_refl _⟩, ⟨by (with_reducible repeat (first | refine blk_drewN ?_ _ | refine blk_drew ?_ | refine blk_alloc ?_ _)); refine blk_put (cs := #[.int .i64 t132, .int .i64 x125001_1]) ?_ 1 _ rfl; (with_reducible repeat (first | refine blk_drewN ?_ _ | refine blk_drew ?_ | refine blk_alloc ?_ _)); refine blk_put (cs := #[.int .i64 x125000_1, .int .i64 x125001_1]) ?_ 0 _ rfl; (with_reducible repeat (first | refine blk_drewN ?_ _ | refine blk_drew ?_ | refine blk_alloc ?_ _)); exact BK124.out⟩, ⟨by repeat (first | (with_reducible first | exact HB.out | apply below_alloc | apply pw_below_drewN | apply below_drew1 | refine below_set ?_ GE124.out) | exact HB.out)⟩⟩
                    · rw [if_neg c24] at H
                      have c24b0 : ((Int.tmod (rd l0 x6_1) 4) == 2) = false := beq_eq_false_iff_ne.mpr c24
                      have c24b1 : ((Int.tmod (rd l0 x6_1) 4) != 2) = true := bne_iff_ne.mpr c24
                      replace H := Option.bind_eq_some_iff.mp H
                      obtain ⟨⟨t134, t135⟩, A360, H⟩ := H
                      replace H : (ostinatolaw5_ConfineRows.j1 k1 l0 x4_1 (mn 1000 (wrap64 (x5_1 + 1))) x6_1 t134 t135) = some r := H
                      have A36 := Aside0.mk A360
                      clear A360
                      obtain ⟨ji37, hji37⟩ : ∃ j_ : Int, (mn 1000 (wrap64 (x5_1 + 1))) = j_ := ⟨_, rfl⟩
                      replace H : (ostinatolaw5_ConfineRows.j1 k1 l0 x4_1 ji37 x6_1 t134 t135) = some r := by first | (rw [hji37] at H; exact H) | (simp only [hji37] at H ⊢; exact H)
                      (try rw [hji37] at A36)
                      have hji37_ : (if (wrap64 (x5_1 + 1)) < 1000 then (wrap64 (x5_1 + 1)) else 1000) = ji37 := hji37
                      have H' := Aside0.mk H
                      clear H
                      have hcz38_0 : wr.cell? ⟨gb124, 0, none⟩ = some (.int .i64 x125000_1) := (blk_cell BK124.out 0).trans rfl
                      have hcz38_1 : wr.cell? ⟨gb124, 1, none⟩ = some (.int .i64 x125001_1) := (blk_cell BK124.out 1).trans rfl
                      have hfz38_0 := blk_frozen BK124.out 0
                      have hfz38_1 := blk_frozen BK124.out 1
                      go_wp2_with (first | ((with_reducible refine gate_callee (f := 21) rfl ?_); refine goesL_ (some 25) rfl rfl Try.func21 (by kernel_rfl) rfl #[.agg #[.int .i64 x125000_1, .int .i64 x125001_1], .bool false] rfl (by (try simp only [List.map_toArray, List.map_cons, List.map_nil]); first | done | rfl | (simp only [List.length_drop, List.length_take]; rfl)) ?_; (with_reducible refine (confine_Got.calls x125000_1 x125001_1 false t134 t135 _ A36.out).mono ?_); rintro e w39 ⟨rfl, hb⟩; refine ⟨_, rfl, ?_⟩; have n0_ := Aside0.mk (blk_below (g := gb124) (o := .cells #[.int .i64 x125000_1, .int .i64 x125001_1] 32 (0, 0)) (by (with_reducible repeat (first | refine blk_drewN ?_ _ | refine blk_drew ?_ | refine blk_alloc ?_ _)); exact BK124.out) hb); have n1_ := Aside0.mk (below_step (by repeat (first | (with_reducible first | exact HB.out | apply below_alloc | apply pw_below_drewN | apply below_drew1 | refine below_set ?_ GE124.out) | exact HB.out)) hb); clear BK124; clear HB; have BK124 := n0_; have HB := n1_; clear n0_ n1_; (try clear hb); (try clear hb2); (try clear hk); (try clear hi); have hcz40_0 : w39.cell? ⟨gb124, 0, none⟩ = some (.int .i64 x125000_1) := (blk_cell BK124.out 0).trans rfl; have hcz40_1 : w39.cell? ⟨gb124, 1, none⟩ = some (.int .i64 x125001_1) := (blk_cell BK124.out 1).trans rfl; have hfz40_0 := blk_frozen BK124.out 0; have hfz40_1 := blk_frozen BK124.out 1))
                      go_meet
                      case rel => exact ⟨_, (x4_1), (ji37), (t134), (t135), (by first | rfl | (simp; done) | (simp [*]; done)), (by first | rfl | (simp; done) | (simp only [← hji37] <;> (first | rfl | simp)) | (simp [*]; done)), H', ⟨by have := HK1.out; first | omega | exact Nat.le_refl _⟩, ⟨by (with_reducible repeat (first | refine blk_drewN ?_ _ | refine blk_drew ?_ | refine blk_alloc ?_ _)); refine blk_put (cs := #[.int .i64 t134, .int .i64 x125001_1]) ?_ 1 _ rfl; (with_reducible repeat (first | refine blk_drewN ?_ _ | refine blk_drew ?_ | refine blk_alloc ?_ _)); refine blk_put (cs := #[.int .i64 x125000_1, .int .i64 x125001_1]) ?_ 0 _ rfl; (with_reducible repeat (first | refine blk_drewN ?_ _ | refine blk_drew ?_ | refine blk_alloc ?_ _)); exact BK124.out⟩, ⟨by repeat (first | (with_reducible first | exact HB.out | apply below_alloc | apply pw_below_drewN | apply below_drew1 | refine below_set ?_ GE124.out) | exact HB.out)⟩⟩
              case rest =>
                clear HC11
                try clear c1
                try clear p1
                try clear q1
                try clear hx1
                try clear c2
                try clear p2
                try clear c3
                try clear c4
                try clear c4b0
                try clear c4b1
                try clear c6
                try clear p6
                try clear c9
                try clear c9b0
                try clear c10
                try clear c10b0
                try clear c12
                try clear c12b0
                try clear c12b1
                try clear p12
                try clear q12
                try clear hx12
                try clear c17
                try clear c18
                try clear c18b0
                try clear c18b1
                try clear c19
                try clear c21
                try clear c24
                try clear c24b0
                try clear c24b1
                try clear c25
                try clear c25b0
                try clear hcz15_0
                try clear hcz15_1
                try clear hcz17_0
                try clear hcz17_1
                try clear hcz21_0
                try clear hcz21_1
                try clear hcz23_0
                try clear hcz23_1
                try clear hcz28_0
                try clear hcz28_1
                try clear hcz30_0
                try clear hcz30_1
                try clear hcz33_0
                try clear hcz33_1
                try clear hcz35_0
                try clear hcz35_1
                try clear hcz38_0
                try clear hcz38_1
                try clear hcz40_0
                try clear hcz40_1
                try clear hcz8_0
                try clear hcz8_1
                try clear hfz15_0
                try clear hfz15_1
                try clear hfz17_0
                try clear hfz17_1
                try clear hfz21_0
                try clear hfz21_1
                try clear hfz23_0
                try clear hfz23_1
                try clear hfz28_0
                try clear hfz28_1
                try clear hfz30_0
                try clear hfz30_1
                try clear hfz33_0
                try clear hfz33_1
                try clear hfz35_0
                try clear hfz35_1
                try clear hfz38_0
                try clear hfz38_1
                try clear hfz40_0
                try clear hfz40_1
                try clear hfz8_0
                try clear hfz8_1
                try clear hx125_0
                try clear p125
                try clear p2
                try clear q125
                obtain ⟨kq, x4_10, x5_10, x125000_10, x125001_10, rfl, rfl, HA, HJ10, BK124, HB⟩ := hcut
                cases kq with
                | zero => exact absurd HA.out (by simp [ostinatolaw5_ConfineRows.j1])
                | succ kj10 =>
                  have H := HA.out
                  clear HA
                  simp only [ostinatolaw5_ConfineRows.j1] at H
                  by_cases c41 : (!(x125000_10 == x4_10) || (!(x125001_10 == x5_10))) = true
                  · rw [if_pos c41] at H
                    have c41b0 : (!(x125000_10 == x4_10) || (!(x125001_10 == x5_10))) = true := c41
                    clear c41
                    obtain rfl := Option.some.inj H
                    have hcz42_0 : wc.cell? ⟨gb124, 0, none⟩ = some (.int .i64 x125000_10) := (blk_cell BK124.out 0).trans rfl
                    have hcz42_1 : wc.cell? ⟨gb124, 1, none⟩ = some (.int .i64 x125001_10) := (blk_cell BK124.out 1).trans rfl
                    have hfz42_0 := blk_frozen BK124.out 0
                    have hfz42_1 := blk_frozen BK124.out 1
                    go_wp2
                    go_ret
                    exact ⟨by first | rfl | (simp [errW_none, errW_some] <;> rfl) | (simp [*, errW_none, errW_some] <;> rfl), by repeat (first | (with_reducible first | exact HB.out | apply below_alloc | apply pw_below_drewN | apply below_drew1 | refine below_set ?_ GE124.out) | exact HB.out)⟩
                  · rw [if_neg c41] at H
                    have c41b0 : (!(x125000_10 == x4_10) || (!(x125001_10 == x5_10))) = false := by simpa using c41
                    clear c41
                    replace H := Option.bind_eq_some_iff.mp H
                    obtain ⟨t136, A430, H⟩ := H
                    replace H : (if (t136 != (decide (x4_10 ≥ 256))) = true then (some false) else ((confine_IsPassive.f x125000_10 x125001_10).bind fun t137 => (if x4_10 < 256 then (if x4_10 ≥ 128 then (if (t137 != true) = true then (some false) else ((confine_Is.f x125000_10 x125001_10).bind fun t138 => (if t138 = true then (ostinatolaw5_ConfineRows.l0 kj10 l0 x4_10 x5_10 (wrap64 (x6_1 + 1)) x125000_10 x125001_10) else (some false)))) else (if (t137 != (decide (x5_10 ≥ 128))) = true then (some false) else ((confine_Is.f x125000_10 x125001_10).bind fun t139 => (if t139 = true then (ostinatolaw5_ConfineRows.l0 kj10 l0 x4_10 x5_10 (wrap64 (x6_1 + 1)) x125000_10 x125001_10) else (some false))))) else (if (t137 != false) = true then (some false) else ((confine_Is.f x125000_10 x125001_10).bind fun t140 => (if t140 = true then (ostinatolaw5_ConfineRows.l0 kj10 l0 x4_10 x5_10 (wrap64 (x6_1 + 1)) x125000_10 x125001_10) else (some false))))))) = some r := H
                    have A43 := Aside0.mk A430
                    clear A430
                    by_cases c44 : (t136 != (decide (x4_10 ≥ 256))) = true
                    · rw [if_pos c44] at H
                      have c44b0 : (t136 != (decide (x4_10 ≥ 256))) = true := c44
                      (try (have c44b1 : decide (t136 = (decide (x4_10 ≥ 256))) = false := by simpa using c44))
                      (try (have c44b2 : (t136 == (decide (x4_10 ≥ 256))) = false := by simpa using c44))
                      (try (have c44b3 : ¬ (t136 = (decide (x4_10 ≥ 256))) := by simpa using c44))
                      clear c44
                      obtain rfl := Option.some.inj H
                      have hcz45_0 : wc.cell? ⟨gb124, 0, none⟩ = some (.int .i64 x125000_10) := (blk_cell BK124.out 0).trans rfl
                      have hcz45_1 : wc.cell? ⟨gb124, 1, none⟩ = some (.int .i64 x125001_10) := (blk_cell BK124.out 1).trans rfl
                      have hfz45_0 := blk_frozen BK124.out 0
                      have hfz45_1 := blk_frozen BK124.out 1
                      go_wp2_with (first | (go_at_call 23; (with_reducible refine (confine_IsOff.calls x125000_10 x125001_10 t136 _ A43.out).mono ?_); rintro e w46 ⟨rfl, hb⟩; have n0_ := Aside0.mk (blk_below (g := gb124) (o := .cells #[.int .i64 x125000_10, .int .i64 x125001_10] 32 (0, 0)) (by (with_reducible repeat (first | refine blk_drewN ?_ _ | refine blk_drew ?_ | refine blk_alloc ?_ _)); exact BK124.out) hb); have n1_ := Aside0.mk (below_step (by repeat (first | (with_reducible first | exact HB.out | apply below_alloc | apply pw_below_drewN | apply below_drew1 | refine below_set ?_ GE124.out) | exact HB.out)) hb); clear BK124; clear HB; have BK124 := n0_; have HB := n1_; clear n0_ n1_; (try clear hb); (try clear hb2); (try clear hk); (try clear hi)))
                      go_ret
                      exact ⟨by first | rfl | (simp [errW_none, errW_some] <;> rfl) | (simp [*, errW_none, errW_some] <;> rfl), by repeat (first | (with_reducible first | exact HB.out | apply below_alloc | apply pw_below_drewN | apply below_drew1 | refine below_set ?_ GE124.out) | exact HB.out)⟩
                    · rw [if_neg c44] at H
                      have c44b0 : (t136 != (decide (x4_10 ≥ 256))) = false := by simpa using c44
                      (try (have c44b1 : decide (t136 = (decide (x4_10 ≥ 256))) = true := by simpa using c44))
                      (try (have c44b2 : (t136 == (decide (x4_10 ≥ 256))) = true := by simpa using c44))
                      clear c44
                      replace H := Option.bind_eq_some_iff.mp H
                      obtain ⟨t137, A470, H⟩ := H
                      replace H : (if x4_10 < 256 then (if x4_10 ≥ 128 then (if (t137 != true) = true then (some false) else ((confine_Is.f x125000_10 x125001_10).bind fun t138 => (if t138 = true then (ostinatolaw5_ConfineRows.l0 kj10 l0 x4_10 x5_10 (wrap64 (x6_1 + 1)) x125000_10 x125001_10) else (some false)))) else (if (t137 != (decide (x5_10 ≥ 128))) = true then (some false) else ((confine_Is.f x125000_10 x125001_10).bind fun t139 => (if t139 = true then (ostinatolaw5_ConfineRows.l0 kj10 l0 x4_10 x5_10 (wrap64 (x6_1 + 1)) x125000_10 x125001_10) else (some false))))) else (if (t137 != false) = true then (some false) else ((confine_Is.f x125000_10 x125001_10).bind fun t140 => (if t140 = true then (ostinatolaw5_ConfineRows.l0 kj10 l0 x4_10 x5_10 (wrap64 (x6_1 + 1)) x125000_10 x125001_10) else (some false))))) = some r := H
                      have A47 := Aside0.mk A470
                      clear A470
                      by_cases c48 : x4_10 < 256
                      · rw [if_pos c48] at H
                        have c48b0 : decide (x4_10 < 256) = true := decide_eq_true c48
                        clear c48
                        by_cases c49 : x4_10 ≥ 128
                        · rw [if_pos c49] at H
                          have c49b0 : decide (128 ≤ x4_10) = true := decide_eq_true c49
                          clear c49
                          by_cases c50 : (t137 != true) = true
                          · rw [if_pos c50] at H
                            have c50b0 : (t137 != true) = true := c50
                            (try (have c50b1 : decide (t137 = true) = false := by simpa using c50))
                            (try (have c50b2 : (t137 == true) = false := by simpa using c50))
                            (try (have c50b3 : ¬ (t137 = true) := by simpa using c50))
                            clear c50
                            obtain rfl := Option.some.inj H
                            have hcz51_0 : wc.cell? ⟨gb124, 0, none⟩ = some (.int .i64 x125000_10) := (blk_cell BK124.out 0).trans rfl
                            have hcz51_1 : wc.cell? ⟨gb124, 1, none⟩ = some (.int .i64 x125001_10) := (blk_cell BK124.out 1).trans rfl
                            have hfz51_0 := blk_frozen BK124.out 0
                            have hfz51_1 := blk_frozen BK124.out 1
                            go_wp2_with (first | (go_at_call 23; (with_reducible refine (confine_IsOff.calls x125000_10 x125001_10 t136 _ A43.out).mono ?_); rintro e w52 ⟨rfl, hb⟩; have n0_ := Aside0.mk (blk_below (g := gb124) (o := .cells #[.int .i64 x125000_10, .int .i64 x125001_10] 32 (0, 0)) (by (with_reducible repeat (first | refine blk_drewN ?_ _ | refine blk_drew ?_ | refine blk_alloc ?_ _)); exact BK124.out) hb); have n1_ := Aside0.mk (below_step (by repeat (first | (with_reducible first | exact HB.out | apply below_alloc | apply pw_below_drewN | apply below_drew1 | refine below_set ?_ GE124.out) | exact HB.out)) hb); clear BK124; clear HB; have BK124 := n0_; have HB := n1_; clear n0_ n1_; (try clear hb); (try clear hb2); (try clear hk); (try clear hi); have hcz53_0 : w52.cell? ⟨gb124, 0, none⟩ = some (.int .i64 x125000_10) := (blk_cell BK124.out 0).trans rfl; have hcz53_1 : w52.cell? ⟨gb124, 1, none⟩ = some (.int .i64 x125001_10) := (blk_cell BK124.out 1).trans rfl; have hfz53_0 := blk_frozen BK124.out 0; have hfz53_1 := blk_frozen BK124.out 1) | (go_at_call 25; (with_reducible refine (confine_IsPassive.calls x125000_10 x125001_10 t137 _ A47.out).mono ?_); rintro e w54 ⟨rfl, hb⟩; have n0_ := Aside0.mk (blk_below (g := gb124) (o := .cells #[.int .i64 x125000_10, .int .i64 x125001_10] 32 (0, 0)) (by (with_reducible repeat (first | refine blk_drewN ?_ _ | refine blk_drew ?_ | refine blk_alloc ?_ _)); exact BK124.out) hb); have n1_ := Aside0.mk (below_step (by repeat (first | (with_reducible first | exact HB.out | apply below_alloc | apply pw_below_drewN | apply below_drew1 | refine below_set ?_ GE124.out) | exact HB.out)) hb); clear BK124; clear HB; have BK124 := n0_; have HB := n1_; clear n0_ n1_; (try clear hb); (try clear hb2); (try clear hk); (try clear hi)))
                            go_ret
                            exact ⟨by first | rfl | (simp [errW_none, errW_some] <;> rfl) | (simp [*, errW_none, errW_some] <;> rfl), by repeat (first | (with_reducible first | exact HB.out | apply below_alloc | apply pw_below_drewN | apply below_drew1 | refine below_set ?_ GE124.out) | exact HB.out)⟩
                          · rw [if_neg c50] at H
                            have c50b0 : (t137 != true) = false := by simpa using c50
                            (try (have c50b1 : decide (t137 = true) = true := by simpa using c50))
                            (try (have c50b2 : (t137 == true) = true := by simpa using c50))
                            clear c50
                            replace H := Option.bind_eq_some_iff.mp H
                            obtain ⟨t138, A550, H⟩ := H
                            replace H : (if t138 = true then (ostinatolaw5_ConfineRows.l0 kj10 l0 x4_10 x5_10 (wrap64 (x6_1 + 1)) x125000_10 x125001_10) else (some false)) = some r := H
                            have A55 := Aside0.mk A550
                            clear A550
                            by_cases c56 : t138 = true
                            · subst c56
                              have H1 : (ostinatolaw5_ConfineRows.l0 kj10 l0 x4_10 x5_10 (wrap64 (x6_1 + 1)) x125000_10 x125001_10) = some r := by rw [if_pos rfl] at H; exact H
                              clear H
                              have H := H1
                              clear H1
                              have H' := Aside0.mk H
                              clear H
                              have hcz57_0 : wc.cell? ⟨gb124, 0, none⟩ = some (.int .i64 x125000_10) := (blk_cell BK124.out 0).trans rfl
                              have hcz57_1 : wc.cell? ⟨gb124, 1, none⟩ = some (.int .i64 x125001_10) := (blk_cell BK124.out 1).trans rfl
                              have hfz57_0 := blk_frozen BK124.out 0
                              have hfz57_1 := blk_frozen BK124.out 1
                              go_wp2_with (first | (go_at_call 23; (with_reducible refine (confine_IsOff.calls x125000_10 x125001_10 t136 _ A43.out).mono ?_); rintro e w58 ⟨rfl, hb⟩; have n0_ := Aside0.mk (blk_below (g := gb124) (o := .cells #[.int .i64 x125000_10, .int .i64 x125001_10] 32 (0, 0)) (by (with_reducible repeat (first | refine blk_drewN ?_ _ | refine blk_drew ?_ | refine blk_alloc ?_ _)); exact BK124.out) hb); have n1_ := Aside0.mk (below_step (by repeat (first | (with_reducible first | exact HB.out | apply below_alloc | apply pw_below_drewN | apply below_drew1 | refine below_set ?_ GE124.out) | exact HB.out)) hb); clear BK124; clear HB; have BK124 := n0_; have HB := n1_; clear n0_ n1_; (try clear hb); (try clear hb2); (try clear hk); (try clear hi); have hcz59_0 : w58.cell? ⟨gb124, 0, none⟩ = some (.int .i64 x125000_10) := (blk_cell BK124.out 0).trans rfl; have hcz59_1 : w58.cell? ⟨gb124, 1, none⟩ = some (.int .i64 x125001_10) := (blk_cell BK124.out 1).trans rfl; have hfz59_0 := blk_frozen BK124.out 0; have hfz59_1 := blk_frozen BK124.out 1) | (go_at_call 25; (with_reducible refine (confine_IsPassive.calls x125000_10 x125001_10 t137 _ A47.out).mono ?_); rintro e w60 ⟨rfl, hb⟩; have n0_ := Aside0.mk (blk_below (g := gb124) (o := .cells #[.int .i64 x125000_10, .int .i64 x125001_10] 32 (0, 0)) (by (with_reducible repeat (first | refine blk_drewN ?_ _ | refine blk_drew ?_ | refine blk_alloc ?_ _)); exact BK124.out) hb); have n1_ := Aside0.mk (below_step (by repeat (first | (with_reducible first | exact HB.out | apply below_alloc | apply pw_below_drewN | apply below_drew1 | refine below_set ?_ GE124.out) | exact HB.out)) hb); clear BK124; clear HB; have BK124 := n0_; have HB := n1_; clear n0_ n1_; (try clear hb); (try clear hb2); (try clear hk); (try clear hi); have hcz61_0 : w60.cell? ⟨gb124, 0, none⟩ = some (.int .i64 x125000_10) := (blk_cell BK124.out 0).trans rfl; have hcz61_1 : w60.cell? ⟨gb124, 1, none⟩ = some (.int .i64 x125001_10) := (blk_cell BK124.out 1).trans rfl; have hfz61_0 := blk_frozen BK124.out 0; have hfz61_1 := blk_frozen BK124.out 1) | (go_at_call 18; (with_reducible refine (confine_Is.calls x125000_10 x125001_10 true _ A55.out).mono ?_); rintro e w62 ⟨rfl, hb⟩; have n0_ := Aside0.mk (blk_below (g := gb124) (o := .cells #[.int .i64 x125000_10, .int .i64 x125001_10] 32 (0, 0)) (by (with_reducible repeat (first | refine blk_drewN ?_ _ | refine blk_drew ?_ | refine blk_alloc ?_ _)); exact BK124.out) hb); have n1_ := Aside0.mk (below_step (by repeat (first | (with_reducible first | exact HB.out | apply below_alloc | apply pw_below_drewN | apply below_drew1 | refine below_set ?_ GE124.out) | exact HB.out)) hb); clear BK124; clear HB; have BK124 := n0_; have HB := n1_; clear n0_ n1_; (try clear hb); (try clear hb2); (try clear hk); (try clear hi)))
                              go_roundg kj10
                              case measure => have := HK1.out; have := HJ10.out; omega
                              case rel => exact ⟨(x4_10), (x5_10), (wrap64 (x6_1 + 1)), (x125000_10), (x125001_10), (by first | rfl | (simp; done) | (simp [*]; done)), (by first | rfl | (simp; done) | (simp [*]; done)), (by first | rfl | (simp; done) | (simp [*]; done)), H', ⟨by have := HK1.out; have := HJ10.out; omega⟩, ⟨by (with_reducible repeat (first | refine blk_drewN ?_ _ | refine blk_drew ?_ | refine blk_alloc ?_ _)); exact BK124.out⟩, ⟨by repeat (first | (with_reducible first | exact HB.out | apply below_alloc | apply pw_below_drewN | apply below_drew1 | refine below_set ?_ GE124.out) | exact HB.out)⟩⟩
                            · replace c56 := Bool.eq_false_iff.mpr c56
                              subst c56
                              have H1 : (some false) = some r := by rw [if_neg (show ¬ (false = true) by decide)] at H; exact H
                              clear H
                              have H := H1
                              clear H1
                              obtain rfl := Option.some.inj H
                              have hcz63_0 : wc.cell? ⟨gb124, 0, none⟩ = some (.int .i64 x125000_10) := (blk_cell BK124.out 0).trans rfl
                              have hcz63_1 : wc.cell? ⟨gb124, 1, none⟩ = some (.int .i64 x125001_10) := (blk_cell BK124.out 1).trans rfl
                              have hfz63_0 := blk_frozen BK124.out 0
                              have hfz63_1 := blk_frozen BK124.out 1
                              go_wp2_with (first | (go_at_call 23; (with_reducible refine (confine_IsOff.calls x125000_10 x125001_10 t136 _ A43.out).mono ?_); rintro e w64 ⟨rfl, hb⟩; have n0_ := Aside0.mk (blk_below (g := gb124) (o := .cells #[.int .i64 x125000_10, .int .i64 x125001_10] 32 (0, 0)) (by (with_reducible repeat (first | refine blk_drewN ?_ _ | refine blk_drew ?_ | refine blk_alloc ?_ _)); exact BK124.out) hb); have n1_ := Aside0.mk (below_step (by repeat (first | (with_reducible first | exact HB.out | apply below_alloc | apply pw_below_drewN | apply below_drew1 | refine below_set ?_ GE124.out) | exact HB.out)) hb); clear BK124; clear HB; have BK124 := n0_; have HB := n1_; clear n0_ n1_; (try clear hb); (try clear hb2); (try clear hk); (try clear hi); have hcz65_0 : w64.cell? ⟨gb124, 0, none⟩ = some (.int .i64 x125000_10) := (blk_cell BK124.out 0).trans rfl; have hcz65_1 : w64.cell? ⟨gb124, 1, none⟩ = some (.int .i64 x125001_10) := (blk_cell BK124.out 1).trans rfl; have hfz65_0 := blk_frozen BK124.out 0; have hfz65_1 := blk_frozen BK124.out 1) | (go_at_call 25; (with_reducible refine (confine_IsPassive.calls x125000_10 x125001_10 t137 _ A47.out).mono ?_); rintro e w66 ⟨rfl, hb⟩; have n0_ := Aside0.mk (blk_below (g := gb124) (o := .cells #[.int .i64 x125000_10, .int .i64 x125001_10] 32 (0, 0)) (by (with_reducible repeat (first | refine blk_drewN ?_ _ | refine blk_drew ?_ | refine blk_alloc ?_ _)); exact BK124.out) hb); have n1_ := Aside0.mk (below_step (by repeat (first | (with_reducible first | exact HB.out | apply below_alloc | apply pw_below_drewN | apply below_drew1 | refine below_set ?_ GE124.out) | exact HB.out)) hb); clear BK124; clear HB; have BK124 := n0_; have HB := n1_; clear n0_ n1_; (try clear hb); (try clear hb2); (try clear hk); (try clear hi); have hcz67_0 : w66.cell? ⟨gb124, 0, none⟩ = some (.int .i64 x125000_10) := (blk_cell BK124.out 0).trans rfl; have hcz67_1 : w66.cell? ⟨gb124, 1, none⟩ = some (.int .i64 x125001_10) := (blk_cell BK124.out 1).trans rfl; have hfz67_0 := blk_frozen BK124.out 0; have hfz67_1 := blk_frozen BK124.out 1) | (go_at_call 18; (with_reducible refine (confine_Is.calls x125000_10 x125001_10 false _ A55.out).mono ?_); rintro e w68 ⟨rfl, hb⟩; have n0_ := Aside0.mk (blk_below (g := gb124) (o := .cells #[.int .i64 x125000_10, .int .i64 x125001_10] 32 (0, 0)) (by (with_reducible repeat (first | refine blk_drewN ?_ _ | refine blk_drew ?_ | refine blk_alloc ?_ _)); exact BK124.out) hb); have n1_ := Aside0.mk (below_step (by repeat (first | (with_reducible first | exact HB.out | apply below_alloc | apply pw_below_drewN | apply below_drew1 | refine below_set ?_ GE124.out) | exact HB.out)) hb); clear BK124; clear HB; have BK124 := n0_; have HB := n1_; clear n0_ n1_; (try clear hb); (try clear hb2); (try clear hk); (try clear hi)))
                              go_ret
                              exact ⟨by first | rfl | (simp [errW_none, errW_some] <;> rfl) | (simp [*, errW_none, errW_some] <;> rfl), by repeat (first | (with_reducible first | exact HB.out | apply below_alloc | apply pw_below_drewN | apply below_drew1 | refine below_set ?_ GE124.out) | exact HB.out)⟩
                        · rw [if_neg c49] at H
                          have c49b0 : decide (128 ≤ x4_10) = false := decide_eq_false c49
                          clear c49
                          by_cases c69 : (t137 != (decide (x5_10 ≥ 128))) = true
                          · rw [if_pos c69] at H
                            have c69b0 : (t137 != (decide (x5_10 ≥ 128))) = true := c69
                            (try (have c69b1 : decide (t137 = (decide (x5_10 ≥ 128))) = false := by simpa using c69))
                            (try (have c69b2 : (t137 == (decide (x5_10 ≥ 128))) = false := by simpa using c69))
                            (try (have c69b3 : ¬ (t137 = (decide (x5_10 ≥ 128))) := by simpa using c69))
                            clear c69
                            obtain rfl := Option.some.inj H
                            have hcz70_0 : wc.cell? ⟨gb124, 0, none⟩ = some (.int .i64 x125000_10) := (blk_cell BK124.out 0).trans rfl
                            have hcz70_1 : wc.cell? ⟨gb124, 1, none⟩ = some (.int .i64 x125001_10) := (blk_cell BK124.out 1).trans rfl
                            have hfz70_0 := blk_frozen BK124.out 0
                            have hfz70_1 := blk_frozen BK124.out 1
                            go_wp2_with (first | (go_at_call 23; (with_reducible refine (confine_IsOff.calls x125000_10 x125001_10 t136 _ A43.out).mono ?_); rintro e w71 ⟨rfl, hb⟩; have n0_ := Aside0.mk (blk_below (g := gb124) (o := .cells #[.int .i64 x125000_10, .int .i64 x125001_10] 32 (0, 0)) (by (with_reducible repeat (first | refine blk_drewN ?_ _ | refine blk_drew ?_ | refine blk_alloc ?_ _)); exact BK124.out) hb); have n1_ := Aside0.mk (below_step (by repeat (first | (with_reducible first | exact HB.out | apply below_alloc | apply pw_below_drewN | apply below_drew1 | refine below_set ?_ GE124.out) | exact HB.out)) hb); clear BK124; clear HB; have BK124 := n0_; have HB := n1_; clear n0_ n1_; (try clear hb); (try clear hb2); (try clear hk); (try clear hi); have hcz72_0 : w71.cell? ⟨gb124, 0, none⟩ = some (.int .i64 x125000_10) := (blk_cell BK124.out 0).trans rfl; have hcz72_1 : w71.cell? ⟨gb124, 1, none⟩ = some (.int .i64 x125001_10) := (blk_cell BK124.out 1).trans rfl; have hfz72_0 := blk_frozen BK124.out 0; have hfz72_1 := blk_frozen BK124.out 1) | (go_at_call 25; (with_reducible refine (confine_IsPassive.calls x125000_10 x125001_10 t137 _ A47.out).mono ?_); rintro e w73 ⟨rfl, hb⟩; have n0_ := Aside0.mk (blk_below (g := gb124) (o := .cells #[.int .i64 x125000_10, .int .i64 x125001_10] 32 (0, 0)) (by (with_reducible repeat (first | refine blk_drewN ?_ _ | refine blk_drew ?_ | refine blk_alloc ?_ _)); exact BK124.out) hb); have n1_ := Aside0.mk (below_step (by repeat (first | (with_reducible first | exact HB.out | apply below_alloc | apply pw_below_drewN | apply below_drew1 | refine below_set ?_ GE124.out) | exact HB.out)) hb); clear BK124; clear HB; have BK124 := n0_; have HB := n1_; clear n0_ n1_; (try clear hb); (try clear hb2); (try clear hk); (try clear hi)))
                            go_ret
                            exact ⟨by first | rfl | (simp [errW_none, errW_some] <;> rfl) | (simp [*, errW_none, errW_some] <;> rfl), by repeat (first | (with_reducible first | exact HB.out | apply below_alloc | apply pw_below_drewN | apply below_drew1 | refine below_set ?_ GE124.out) | exact HB.out)⟩
                          · rw [if_neg c69] at H
                            have c69b0 : (t137 != (decide (x5_10 ≥ 128))) = false := by simpa using c69
                            (try (have c69b1 : decide (t137 = (decide (x5_10 ≥ 128))) = true := by simpa using c69))
                            (try (have c69b2 : (t137 == (decide (x5_10 ≥ 128))) = true := by simpa using c69))
                            clear c69
                            replace H := Option.bind_eq_some_iff.mp H
                            obtain ⟨t139, A740, H⟩ := H
                            replace H : (if t139 = true then (ostinatolaw5_ConfineRows.l0 kj10 l0 x4_10 x5_10 (wrap64 (x6_1 + 1)) x125000_10 x125001_10) else (some false)) = some r := H
                            have A74 := Aside0.mk A740
                            clear A740
                            by_cases c75 : t139 = true
                            · subst c75
                              have H1 : (ostinatolaw5_ConfineRows.l0 kj10 l0 x4_10 x5_10 (wrap64 (x6_1 + 1)) x125000_10 x125001_10) = some r := by rw [if_pos rfl] at H; exact H
                              clear H
                              have H := H1
                              clear H1
                              have H' := Aside0.mk H
                              clear H
                              have hcz76_0 : wc.cell? ⟨gb124, 0, none⟩ = some (.int .i64 x125000_10) := (blk_cell BK124.out 0).trans rfl
                              have hcz76_1 : wc.cell? ⟨gb124, 1, none⟩ = some (.int .i64 x125001_10) := (blk_cell BK124.out 1).trans rfl
                              have hfz76_0 := blk_frozen BK124.out 0
                              have hfz76_1 := blk_frozen BK124.out 1
                              go_wp2_with (first | (go_at_call 23; (with_reducible refine (confine_IsOff.calls x125000_10 x125001_10 t136 _ A43.out).mono ?_); rintro e w77 ⟨rfl, hb⟩; have n0_ := Aside0.mk (blk_below (g := gb124) (o := .cells #[.int .i64 x125000_10, .int .i64 x125001_10] 32 (0, 0)) (by (with_reducible repeat (first | refine blk_drewN ?_ _ | refine blk_drew ?_ | refine blk_alloc ?_ _)); exact BK124.out) hb); have n1_ := Aside0.mk (below_step (by repeat (first | (with_reducible first | exact HB.out | apply below_alloc | apply pw_below_drewN | apply below_drew1 | refine below_set ?_ GE124.out) | exact HB.out)) hb); clear BK124; clear HB; have BK124 := n0_; have HB := n1_; clear n0_ n1_; (try clear hb); (try clear hb2); (try clear hk); (try clear hi); have hcz78_0 : w77.cell? ⟨gb124, 0, none⟩ = some (.int .i64 x125000_10) := (blk_cell BK124.out 0).trans rfl; have hcz78_1 : w77.cell? ⟨gb124, 1, none⟩ = some (.int .i64 x125001_10) := (blk_cell BK124.out 1).trans rfl; have hfz78_0 := blk_frozen BK124.out 0; have hfz78_1 := blk_frozen BK124.out 1) | (go_at_call 25; (with_reducible refine (confine_IsPassive.calls x125000_10 x125001_10 t137 _ A47.out).mono ?_); rintro e w79 ⟨rfl, hb⟩; have n0_ := Aside0.mk (blk_below (g := gb124) (o := .cells #[.int .i64 x125000_10, .int .i64 x125001_10] 32 (0, 0)) (by (with_reducible repeat (first | refine blk_drewN ?_ _ | refine blk_drew ?_ | refine blk_alloc ?_ _)); exact BK124.out) hb); have n1_ := Aside0.mk (below_step (by repeat (first | (with_reducible first | exact HB.out | apply below_alloc | apply pw_below_drewN | apply below_drew1 | refine below_set ?_ GE124.out) | exact HB.out)) hb); clear BK124; clear HB; have BK124 := n0_; have HB := n1_; clear n0_ n1_; (try clear hb); (try clear hb2); (try clear hk); (try clear hi); have hcz80_0 : w79.cell? ⟨gb124, 0, none⟩ = some (.int .i64 x125000_10) := (blk_cell BK124.out 0).trans rfl; have hcz80_1 : w79.cell? ⟨gb124, 1, none⟩ = some (.int .i64 x125001_10) := (blk_cell BK124.out 1).trans rfl; have hfz80_0 := blk_frozen BK124.out 0; have hfz80_1 := blk_frozen BK124.out 1) | (go_at_call 18; (with_reducible refine (confine_Is.calls x125000_10 x125001_10 true _ A74.out).mono ?_); rintro e w81 ⟨rfl, hb⟩; have n0_ := Aside0.mk (blk_below (g := gb124) (o := .cells #[.int .i64 x125000_10, .int .i64 x125001_10] 32 (0, 0)) (by (with_reducible repeat (first | refine blk_drewN ?_ _ | refine blk_drew ?_ | refine blk_alloc ?_ _)); exact BK124.out) hb); have n1_ := Aside0.mk (below_step (by repeat (first | (with_reducible first | exact HB.out | apply below_alloc | apply pw_below_drewN | apply below_drew1 | refine below_set ?_ GE124.out) | exact HB.out)) hb); clear BK124; clear HB; have BK124 := n0_; have HB := n1_; clear n0_ n1_; (try clear hb); (try clear hb2); (try clear hk); (try clear hi)))
                              go_roundg kj10
                              case measure => have := HK1.out; have := HJ10.out; omega
                              case rel => exact ⟨(x4_10), (x5_10), (wrap64 (x6_1 + 1)), (x125000_10), (x125001_10), (by first | rfl | (simp; done) | (simp [*]; done)), (by first | rfl | (simp; done) | (simp [*]; done)), (by first | rfl | (simp; done) | (simp [*]; done)), H', ⟨by have := HK1.out; have := HJ10.out; omega⟩, ⟨by (with_reducible repeat (first | refine blk_drewN ?_ _ | refine blk_drew ?_ | refine blk_alloc ?_ _)); exact BK124.out⟩, ⟨by repeat (first | (with_reducible first | exact HB.out | apply below_alloc | apply pw_below_drewN | apply below_drew1 | refine below_set ?_ GE124.out) | exact HB.out)⟩⟩
                            · replace c75 := Bool.eq_false_iff.mpr c75
                              subst c75
                              have H1 : (some false) = some r := by rw [if_neg (show ¬ (false = true) by decide)] at H; exact H
                              clear H
                              have H := H1
                              clear H1
                              obtain rfl := Option.some.inj H
                              have hcz82_0 : wc.cell? ⟨gb124, 0, none⟩ = some (.int .i64 x125000_10) := (blk_cell BK124.out 0).trans rfl
                              have hcz82_1 : wc.cell? ⟨gb124, 1, none⟩ = some (.int .i64 x125001_10) := (blk_cell BK124.out 1).trans rfl
                              have hfz82_0 := blk_frozen BK124.out 0
                              have hfz82_1 := blk_frozen BK124.out 1
                              go_wp2_with (first | (go_at_call 23; (with_reducible refine (confine_IsOff.calls x125000_10 x125001_10 t136 _ A43.out).mono ?_); rintro e w83 ⟨rfl, hb⟩; have n0_ := Aside0.mk (blk_below (g := gb124) (o := .cells #[.int .i64 x125000_10, .int .i64 x125001_10] 32 (0, 0)) (by (with_reducible repeat (first | refine blk_drewN ?_ _ | refine blk_drew ?_ | refine blk_alloc ?_ _)); exact BK124.out) hb); have n1_ := Aside0.mk (below_step (by repeat (first | (with_reducible first | exact HB.out | apply below_alloc | apply pw_below_drewN | apply below_drew1 | refine below_set ?_ GE124.out) | exact HB.out)) hb); clear BK124; clear HB; have BK124 := n0_; have HB := n1_; clear n0_ n1_; (try clear hb); (try clear hb2); (try clear hk); (try clear hi); have hcz84_0 : w83.cell? ⟨gb124, 0, none⟩ = some (.int .i64 x125000_10) := (blk_cell BK124.out 0).trans rfl; have hcz84_1 : w83.cell? ⟨gb124, 1, none⟩ = some (.int .i64 x125001_10) := (blk_cell BK124.out 1).trans rfl; have hfz84_0 := blk_frozen BK124.out 0; have hfz84_1 := blk_frozen BK124.out 1) | (go_at_call 25; (with_reducible refine (confine_IsPassive.calls x125000_10 x125001_10 t137 _ A47.out).mono ?_); rintro e w85 ⟨rfl, hb⟩; have n0_ := Aside0.mk (blk_below (g := gb124) (o := .cells #[.int .i64 x125000_10, .int .i64 x125001_10] 32 (0, 0)) (by (with_reducible repeat (first | refine blk_drewN ?_ _ | refine blk_drew ?_ | refine blk_alloc ?_ _)); exact BK124.out) hb); have n1_ := Aside0.mk (below_step (by repeat (first | (with_reducible first | exact HB.out | apply below_alloc | apply pw_below_drewN | apply below_drew1 | refine below_set ?_ GE124.out) | exact HB.out)) hb); clear BK124; clear HB; have BK124 := n0_; have HB := n1_; clear n0_ n1_; (try clear hb); (try clear hb2); (try clear hk); (try clear hi); have hcz86_0 : w85.cell? ⟨gb124, 0, none⟩ = some (.int .i64 x125000_10) := (blk_cell BK124.out 0).trans rfl; have hcz86_1 : w85.cell? ⟨gb124, 1, none⟩ = some (.int .i64 x125001_10) := (blk_cell BK124.out 1).trans rfl; have hfz86_0 := blk_frozen BK124.out 0; have hfz86_1 := blk_frozen BK124.out 1) | (go_at_call 18; (with_reducible refine (confine_Is.calls x125000_10 x125001_10 false _ A74.out).mono ?_); rintro e w87 ⟨rfl, hb⟩; have n0_ := Aside0.mk (blk_below (g := gb124) (o := .cells #[.int .i64 x125000_10, .int .i64 x125001_10] 32 (0, 0)) (by (with_reducible repeat (first | refine blk_drewN ?_ _ | refine blk_drew ?_ | refine blk_alloc ?_ _)); exact BK124.out) hb); have n1_ := Aside0.mk (below_step (by repeat (first | (with_reducible first | exact HB.out | apply below_alloc | apply pw_below_drewN | apply below_drew1 | refine below_set ?_ GE124.out) | exact HB.out)) hb); clear BK124; clear HB; have BK124 := n0_; have HB := n1_; clear n0_ n1_; (try clear hb); (try clear hb2); (try clear hk); (try clear hi)))
                              go_ret
                              exact ⟨by first | rfl | (simp [errW_none, errW_some] <;> rfl) | (simp [*, errW_none, errW_some] <;> rfl), by repeat (first | (with_reducible first | exact HB.out | apply below_alloc | apply pw_below_drewN | apply below_drew1 | refine below_set ?_ GE124.out) | exact HB.out)⟩
                      · rw [if_neg c48] at H
                        have c48b0 : decide (x4_10 < 256) = false := decide_eq_false c48
                        clear c48
                        by_cases c88 : (t137 != false) = true
                        · rw [if_pos c88] at H
                          have c88b0 : (t137 != false) = true := c88
                          (try (have c88b1 : decide (t137 = false) = false := by simpa using c88))
                          (try (have c88b2 : (t137 == false) = false := by simpa using c88))
                          (try (have c88b3 : ¬ (t137 = false) := by simpa using c88))
                          clear c88
                          obtain rfl := Option.some.inj H
                          have hcz89_0 : wc.cell? ⟨gb124, 0, none⟩ = some (.int .i64 x125000_10) := (blk_cell BK124.out 0).trans rfl
                          have hcz89_1 : wc.cell? ⟨gb124, 1, none⟩ = some (.int .i64 x125001_10) := (blk_cell BK124.out 1).trans rfl
                          have hfz89_0 := blk_frozen BK124.out 0
                          have hfz89_1 := blk_frozen BK124.out 1
                          go_wp2_with (first | (go_at_call 23; (with_reducible refine (confine_IsOff.calls x125000_10 x125001_10 t136 _ A43.out).mono ?_); rintro e w90 ⟨rfl, hb⟩; have n0_ := Aside0.mk (blk_below (g := gb124) (o := .cells #[.int .i64 x125000_10, .int .i64 x125001_10] 32 (0, 0)) (by (with_reducible repeat (first | refine blk_drewN ?_ _ | refine blk_drew ?_ | refine blk_alloc ?_ _)); exact BK124.out) hb); have n1_ := Aside0.mk (below_step (by repeat (first | (with_reducible first | exact HB.out | apply below_alloc | apply pw_below_drewN | apply below_drew1 | refine below_set ?_ GE124.out) | exact HB.out)) hb); clear BK124; clear HB; have BK124 := n0_; have HB := n1_; clear n0_ n1_; (try clear hb); (try clear hb2); (try clear hk); (try clear hi); have hcz91_0 : w90.cell? ⟨gb124, 0, none⟩ = some (.int .i64 x125000_10) := (blk_cell BK124.out 0).trans rfl; have hcz91_1 : w90.cell? ⟨gb124, 1, none⟩ = some (.int .i64 x125001_10) := (blk_cell BK124.out 1).trans rfl; have hfz91_0 := blk_frozen BK124.out 0; have hfz91_1 := blk_frozen BK124.out 1) | (go_at_call 25; (with_reducible refine (confine_IsPassive.calls x125000_10 x125001_10 t137 _ A47.out).mono ?_); rintro e w92 ⟨rfl, hb⟩; have n0_ := Aside0.mk (blk_below (g := gb124) (o := .cells #[.int .i64 x125000_10, .int .i64 x125001_10] 32 (0, 0)) (by (with_reducible repeat (first | refine blk_drewN ?_ _ | refine blk_drew ?_ | refine blk_alloc ?_ _)); exact BK124.out) hb); have n1_ := Aside0.mk (below_step (by repeat (first | (with_reducible first | exact HB.out | apply below_alloc | apply pw_below_drewN | apply below_drew1 | refine below_set ?_ GE124.out) | exact HB.out)) hb); clear BK124; clear HB; have BK124 := n0_; have HB := n1_; clear n0_ n1_; (try clear hb); (try clear hb2); (try clear hk); (try clear hi)))
                          go_ret
                          exact ⟨by first | rfl | (simp [errW_none, errW_some] <;> rfl) | (simp [*, errW_none, errW_some] <;> rfl), by repeat (first | (with_reducible first | exact HB.out | apply below_alloc | apply pw_below_drewN | apply below_drew1 | refine below_set ?_ GE124.out) | exact HB.out)⟩
                        · rw [if_neg c88] at H
                          have c88b0 : (t137 != false) = false := by simpa using c88
                          (try (have c88b1 : decide (t137 = false) = true := by simpa using c88))
                          (try (have c88b2 : (t137 == false) = true := by simpa using c88))
                          clear c88
                          replace H := Option.bind_eq_some_iff.mp H
                          obtain ⟨t140, A930, H⟩ := H
                          replace H : (if t140 = true then (ostinatolaw5_ConfineRows.l0 kj10 l0 x4_10 x5_10 (wrap64 (x6_1 + 1)) x125000_10 x125001_10) else (some false)) = some r := H
                          have A93 := Aside0.mk A930
                          clear A930
                          by_cases c94 : t140 = true
                          · subst c94
                            have H1 : (ostinatolaw5_ConfineRows.l0 kj10 l0 x4_10 x5_10 (wrap64 (x6_1 + 1)) x125000_10 x125001_10) = some r := by rw [if_pos rfl] at H; exact H
                            clear H
                            have H := H1
                            clear H1
                            have H' := Aside0.mk H
                            clear H
                            have hcz95_0 : wc.cell? ⟨gb124, 0, none⟩ = some (.int .i64 x125000_10) := (blk_cell BK124.out 0).trans rfl
                            have hcz95_1 : wc.cell? ⟨gb124, 1, none⟩ = some (.int .i64 x125001_10) := (blk_cell BK124.out 1).trans rfl
                            have hfz95_0 := blk_frozen BK124.out 0
                            have hfz95_1 := blk_frozen BK124.out 1
                            go_wp2_with (first | (go_at_call 23; (with_reducible refine (confine_IsOff.calls x125000_10 x125001_10 t136 _ A43.out).mono ?_); rintro e w96 ⟨rfl, hb⟩; have n0_ := Aside0.mk (blk_below (g := gb124) (o := .cells #[.int .i64 x125000_10, .int .i64 x125001_10] 32 (0, 0)) (by (with_reducible repeat (first | refine blk_drewN ?_ _ | refine blk_drew ?_ | refine blk_alloc ?_ _)); exact BK124.out) hb); have n1_ := Aside0.mk (below_step (by repeat (first | (with_reducible first | exact HB.out | apply below_alloc | apply pw_below_drewN | apply below_drew1 | refine below_set ?_ GE124.out) | exact HB.out)) hb); clear BK124; clear HB; have BK124 := n0_; have HB := n1_; clear n0_ n1_; (try clear hb); (try clear hb2); (try clear hk); (try clear hi); have hcz97_0 : w96.cell? ⟨gb124, 0, none⟩ = some (.int .i64 x125000_10) := (blk_cell BK124.out 0).trans rfl; have hcz97_1 : w96.cell? ⟨gb124, 1, none⟩ = some (.int .i64 x125001_10) := (blk_cell BK124.out 1).trans rfl; have hfz97_0 := blk_frozen BK124.out 0; have hfz97_1 := blk_frozen BK124.out 1) | (go_at_call 25; (with_reducible refine (confine_IsPassive.calls x125000_10 x125001_10 t137 _ A47.out).mono ?_); rintro e w98 ⟨rfl, hb⟩; have n0_ := Aside0.mk (blk_below (g := gb124) (o := .cells #[.int .i64 x125000_10, .int .i64 x125001_10] 32 (0, 0)) (by (with_reducible repeat (first | refine blk_drewN ?_ _ | refine blk_drew ?_ | refine blk_alloc ?_ _)); exact BK124.out) hb); have n1_ := Aside0.mk (below_step (by repeat (first | (with_reducible first | exact HB.out | apply below_alloc | apply pw_below_drewN | apply below_drew1 | refine below_set ?_ GE124.out) | exact HB.out)) hb); clear BK124; clear HB; have BK124 := n0_; have HB := n1_; clear n0_ n1_; (try clear hb); (try clear hb2); (try clear hk); (try clear hi); have hcz99_0 : w98.cell? ⟨gb124, 0, none⟩ = some (.int .i64 x125000_10) := (blk_cell BK124.out 0).trans rfl; have hcz99_1 : w98.cell? ⟨gb124, 1, none⟩ = some (.int .i64 x125001_10) := (blk_cell BK124.out 1).trans rfl; have hfz99_0 := blk_frozen BK124.out 0; have hfz99_1 := blk_frozen BK124.out 1) | (go_at_call 18; (with_reducible refine (confine_Is.calls x125000_10 x125001_10 true _ A93.out).mono ?_); rintro e w100 ⟨rfl, hb⟩; have n0_ := Aside0.mk (blk_below (g := gb124) (o := .cells #[.int .i64 x125000_10, .int .i64 x125001_10] 32 (0, 0)) (by (with_reducible repeat (first | refine blk_drewN ?_ _ | refine blk_drew ?_ | refine blk_alloc ?_ _)); exact BK124.out) hb); have n1_ := Aside0.mk (below_step (by repeat (first | (with_reducible first | exact HB.out | apply below_alloc | apply pw_below_drewN | apply below_drew1 | refine below_set ?_ GE124.out) | exact HB.out)) hb); clear BK124; clear HB; have BK124 := n0_; have HB := n1_; clear n0_ n1_; (try clear hb); (try clear hb2); (try clear hk); (try clear hi)))
                            go_roundg kj10
                            case measure => have := HK1.out; have := HJ10.out; omega
                            case rel => exact ⟨(x4_10), (x5_10), (wrap64 (x6_1 + 1)), (x125000_10), (x125001_10), (by first | rfl | (simp; done) | (simp [*]; done)), (by first | rfl | (simp; done) | (simp [*]; done)), (by first | rfl | (simp; done) | (simp [*]; done)), H', ⟨by have := HK1.out; have := HJ10.out; omega⟩, ⟨by (with_reducible repeat (first | refine blk_drewN ?_ _ | refine blk_drew ?_ | refine blk_alloc ?_ _)); exact BK124.out⟩, ⟨by repeat (first | (with_reducible first | exact HB.out | apply below_alloc | apply pw_below_drewN | apply below_drew1 | refine below_set ?_ GE124.out) | exact HB.out)⟩⟩
                          · replace c94 := Bool.eq_false_iff.mpr c94
                            subst c94
                            have H1 : (some false) = some r := by rw [if_neg (show ¬ (false = true) by decide)] at H; exact H
                            clear H
                            have H := H1
                            clear H1
                            obtain rfl := Option.some.inj H
                            have hcz101_0 : wc.cell? ⟨gb124, 0, none⟩ = some (.int .i64 x125000_10) := (blk_cell BK124.out 0).trans rfl
                            have hcz101_1 : wc.cell? ⟨gb124, 1, none⟩ = some (.int .i64 x125001_10) := (blk_cell BK124.out 1).trans rfl
                            have hfz101_0 := blk_frozen BK124.out 0
                            have hfz101_1 := blk_frozen BK124.out 1
                            go_wp2_with (first | (go_at_call 23; (with_reducible refine (confine_IsOff.calls x125000_10 x125001_10 t136 _ A43.out).mono ?_); rintro e w102 ⟨rfl, hb⟩; have n0_ := Aside0.mk (blk_below (g := gb124) (o := .cells #[.int .i64 x125000_10, .int .i64 x125001_10] 32 (0, 0)) (by (with_reducible repeat (first | refine blk_drewN ?_ _ | refine blk_drew ?_ | refine blk_alloc ?_ _)); exact BK124.out) hb); have n1_ := Aside0.mk (below_step (by repeat (first | (with_reducible first | exact HB.out | apply below_alloc | apply pw_below_drewN | apply below_drew1 | refine below_set ?_ GE124.out) | exact HB.out)) hb); clear BK124; clear HB; have BK124 := n0_; have HB := n1_; clear n0_ n1_; (try clear hb); (try clear hb2); (try clear hk); (try clear hi); have hcz103_0 : w102.cell? ⟨gb124, 0, none⟩ = some (.int .i64 x125000_10) := (blk_cell BK124.out 0).trans rfl; have hcz103_1 : w102.cell? ⟨gb124, 1, none⟩ = some (.int .i64 x125001_10) := (blk_cell BK124.out 1).trans rfl; have hfz103_0 := blk_frozen BK124.out 0; have hfz103_1 := blk_frozen BK124.out 1) | (go_at_call 25; (with_reducible refine (confine_IsPassive.calls x125000_10 x125001_10 t137 _ A47.out).mono ?_); rintro e w104 ⟨rfl, hb⟩; have n0_ := Aside0.mk (blk_below (g := gb124) (o := .cells #[.int .i64 x125000_10, .int .i64 x125001_10] 32 (0, 0)) (by (with_reducible repeat (first | refine blk_drewN ?_ _ | refine blk_drew ?_ | refine blk_alloc ?_ _)); exact BK124.out) hb); have n1_ := Aside0.mk (below_step (by repeat (first | (with_reducible first | exact HB.out | apply below_alloc | apply pw_below_drewN | apply below_drew1 | refine below_set ?_ GE124.out) | exact HB.out)) hb); clear BK124; clear HB; have BK124 := n0_; have HB := n1_; clear n0_ n1_; (try clear hb); (try clear hb2); (try clear hk); (try clear hi); have hcz105_0 : w104.cell? ⟨gb124, 0, none⟩ = some (.int .i64 x125000_10) := (blk_cell BK124.out 0).trans rfl; have hcz105_1 : w104.cell? ⟨gb124, 1, none⟩ = some (.int .i64 x125001_10) := (blk_cell BK124.out 1).trans rfl; have hfz105_0 := blk_frozen BK124.out 0; have hfz105_1 := blk_frozen BK124.out 1) | (go_at_call 18; (with_reducible refine (confine_Is.calls x125000_10 x125001_10 false _ A93.out).mono ?_); rintro e w106 ⟨rfl, hb⟩; have n0_ := Aside0.mk (blk_below (g := gb124) (o := .cells #[.int .i64 x125000_10, .int .i64 x125001_10] 32 (0, 0)) (by (with_reducible repeat (first | refine blk_drewN ?_ _ | refine blk_drew ?_ | refine blk_alloc ?_ _)); exact BK124.out) hb); have n1_ := Aside0.mk (below_step (by repeat (first | (with_reducible first | exact HB.out | apply below_alloc | apply pw_below_drewN | apply below_drew1 | refine below_set ?_ GE124.out) | exact HB.out)) hb); clear BK124; clear HB; have BK124 := n0_; have HB := n1_; clear n0_ n1_; (try clear hb); (try clear hb2); (try clear hk); (try clear hi)))
                            go_ret
                            exact ⟨by first | rfl | (simp [errW_none, errW_some] <;> rfl) | (simp [*, errW_none, errW_some] <;> rfl), by repeat (first | (with_reducible first | exact HB.out | apply below_alloc | apply pw_below_drewN | apply below_drew1 | refine below_set ?_ GE124.out) | exact HB.out)⟩
            · rw [if_neg c10] at H
              exact absurd H (by simp)
          · rw [if_neg c9] at H
            have c9b0 : decide (x6_1 < (l0.length : Int)) = false := decide_eq_false c9
            clear c9
            obtain rfl := Option.some.inj H
            go_wp2
            go_ret
            exact ⟨by first | rfl | (simp [errW_none, errW_some] <;> rfl) | (simp [*, errW_none, errW_some] <;> rfl), by repeat (first | (with_reducible first | exact HB.out | apply below_alloc | apply pw_below_drewN | apply below_drew1 | refine below_set ?_ GE124.out) | exact HB.out)⟩
  · replace c3 := Bool.eq_false_iff.mpr c3
    subst c3
    have H1 : (some false) = some r := by rw [if_neg (show ¬ (false = true) by decide)] at H; exact H
    clear H
    have H := H1
    clear H1
    obtain rfl := Option.some.inj H
    go_enter Try.func6, Try.ntmps6
    go_wp2_with (first | ((with_reducible refine gate_callee (f := 17) rfl ?_); refine goesL_ (some 7) rfl rfl Try.func17 (by kernel_rfl) rfl #[] rfl (by (try simp only [List.map_toArray, List.map_cons, List.map_nil]); first | done | rfl | (simp only [List.length_drop, List.length_take]; rfl)) ?_; (with_reducible refine (ostinatolaw5_known.calls k  false _ A2.out).mono ?_); rintro e w107 ⟨rfl, hb⟩; refine ⟨_, rfl, ?_⟩; have n0_ := Aside0.mk (below_step (by repeat (first | (with_reducible first | exact HB.out | apply below_alloc | apply pw_below_drewN | apply below_drew1) | exact HB.out)) hb); clear HB; have HB := n0_; clear n0_; (try clear hb); (try clear hb2); (try clear hk); (try clear hi)))
    go_ret
    exact ⟨by first | rfl | (simp [errW_none, errW_some] <;> rfl) | (simp [*, errW_none, errW_some] <;> rfl), by repeat (first | (with_reducible first | exact HB.out | apply below_alloc | apply pw_below_drewN | apply below_drew1) | exact HB.out)⟩

/-- THE ONE PURE STATEMENT of ostinatolaw5_ConfineRows: yours. -/
def ostinatolaw5_ConfineRows.Pure : Prop := ∀ (l0 : List Int), l0.length ≤ maxLen → l0.length * 1 ≤ 140737488351232 → (∀ x ∈ l0, (Lit.int .u8 x).wf = true) → ∃ k, ostinatolaw5_ConfineRows.f k l0 = some true
theorem ostinatolaw5_ConfineRows.walk (P : ostinatolaw5_ConfineRows.Pure) (a0 : Option Addr) (len0 cap0 : Nat) (z0 : List Int) (w : World) (w0 : (a0 = none ∧ len0 = 0 ∧ cap0 = 0 ∧ z0 = []) ∨ ∃ x, a0 = some x ∧ len0 ≤ cap0 ∧ cap0 ≤ maxLen ∧ z0.length = cap0 ∧ (∀ i, i < z0.length → w.cell? (x.add i) = some (.int .u8 (z0.getD i 0))) ∧ ∀ n ∈ z0, (Lit.int .u8 n).wf = true) (y0 : len0 * 1 ≤ 140737488351232) :
    Calls Try.prog 6 #[.slice a0 len0 cap0] w fun e w' => e = .returned (.bool true) ∧ Below w.heap.size w w' := by
  obtain ⟨l0, rfl, hr0, hm0, hw0, hc0⟩ := ReadsInt.ofRowC w0
  obtain ⟨k, h⟩ := P l0 hm0 y0 hw0
  refine (ostinatolaw5_ConfineRows.calls k _ _ l0 true w (Kd.C_of_reads (d := (0 : Int)) (h1 := fun _ => rfl) hr0) hc0 h).mono ?_
  rintro e w' ⟨rfl, hd⟩
  exact ⟨rfl, hd⟩

end Go.Proofs.Ytlfeidakmhniaaa.PConfineRows
