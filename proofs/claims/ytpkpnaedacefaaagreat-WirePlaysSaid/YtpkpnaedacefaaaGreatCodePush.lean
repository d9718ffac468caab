/- A reader takes a bit. -/
import Derived.Test.YtpkpnaedacefaaaGreatCodeWalks
namespace Go.Proofs.YtpkpnaedacefaaaGreat.CodeW
set_option linter.unusedVariables false
set_option linter.unusedSimpArgs false
open Go Go.RowKit Go.Proofs.YtpkpnaedacefaaaGreat.Lib Go.Proofs.YtpkpnaedacefaaaGreat.Bits Go.Proofs.YtpkpnaedacefaaaGreat.BitsW Go.Proofs.YtpkpnaedacefaaaGreat.StuffW Go.Proofs.YtpkpnaedacefaaaGreat.Frame Go.Proofs.YtpkpnaedacefaaaGreat.FrameW Go.Proofs.YtpkpnaedacefaaaGreat.Code Go.Proofs.YtpkpnaedacefaaaGreat.PrintMore
attribute [local go_sem] max2_int min2_int max_two min_two

theorem IsRd.isRun {cs : List Value} {o : Nat} {r : Rd} (h : IsRd cs o r) : IsRun cs o r.rn r.rb := ⟨h.get.1, h.get.2.1⟩
theorem IsRd.run {cs : List Value} {o : Nat} {r : Rd} (h : IsRd cs o r) (c : Bool) : IsRd (runCells cs o r.rn r.rb c) o { r with rn := runK r.rn r.rb c, rb := c } := by
  have h1 := (IsRaw.set0 h (.int .u8 ((sg c).toNat : Int))).set1 (.int .i64 (runK r.rn r.rb c))
  unfold IsRd runCells
  simp only [if_neg (runK_pos r.rn r.rb c)]
  exact h1
theorem IsRd.lay {cs : List Value} {o : Nat} {r : Rd} (h : IsRd cs o r) (b : Bool) : IsRd (cs.set (o + 134) (.bool b)) o { r with laid := b } :=
  IsRaw.set h 4 (.bool b) _ _ _ _ _ (by decide) rfl
theorem same_run (cs : List Value) (o n : Nat) (b c : Bool) : Same cs (runCells cs o n b c) o := ((Same.refl cs o).set 0 _ (by decide)).set 1 _ (by decide)
theorem RdPost.from {w w1 w' : World} {g o : Nat} {T : TypeId} {cs cs1 : List Value} {r : Rd} (h : RdPost w1 w' g o T cs1 r) (hg : w.grownBy w1 (some g)) (hs : Same cs cs1 o) : RdPost w w' g o T cs r := by
  obtain ⟨⟨cs', h1, h2, h3⟩, h4⟩ := h
  exact ⟨⟨cs', h1, h2, hs.trans h3⟩, grown_trans hg h4⟩
set_option maxRecDepth 100000 in
set_option maxHeartbeats 6400000 in
theorem push_tail (g o : Nat) (T : TypeId) (cs : List Value) (r : Rd) (c : Bool) (w : World) (hb : Blk w g T cs) (hr : IsRd cs o r) (hok : Rd.Ok r) (he9 : r.en ≤ 100000)
    (hI : r.inBits = false) (hh : r.rn ≠ 5 ∨ (r.rn = 5 ∧ r.laid = true) ∨ (r.rn = 5 ∧ r.laid = false ∧ r.en ≠ 0)) :
    Calls Tryz.prog 54 #[.pointer (some ⟨g, o, none⟩), .int .u8 ((sg c).toNat : Int)] w fun e w' => e = .returned (.int .i64 ((r.tail c).2 : Int)) ∧ RdPost w w' g o T cs (r.tail c).1 := by
  have HFULL := hid (full_calls g o T cs r.rn w hb hr.get.2.1)
  have HI := hid (inBits_calls g o T cs r w hb hr hok)
  have HT := hid (tail_calls g o T cs r c w.drew hb.drew hr hok he9)
  obtain ⟨_, _, _, _, _, p5, p6⟩ := hr.get
  have q5 := (hb.drew.cell (o + 133)).trans p5
  have q6 := (hb.drew.cell (o + 134)).trans p6
  have HG := hid (grown_drew (grown_refl w (some g)))
  clear hb hr hok he9 p5 p6
  generalize (r.tail c).2 = E at *
  generalize (r.tail c).1 = R at *
  rcases hh with h | ⟨h, hl⟩ | ⟨h, hl, he⟩
  · have t5 : ((r.rn : Int) == 5) = false := by rw [beq_eq_false_iff_ne]; omega
    clear h
    go_enter Tryz.func54, Tryz.ntmps54
    go_wp2_with (first
      | (go_at_call 78; with_reducible refine HFULL.out.mono ?_; rintro e w' ⟨rfl, rfl⟩)
      | (go_at_call 51; with_reducible refine HI.out.mono ?_; rintro e w' ⟨rfl, rfl⟩)
      | (go_at_call 82; with_reducible refine HT.out.mono ?_; rintro e w' ⟨rfl, hp⟩))
    go_ret
    exact ⟨rfl, hp.from HG.out (Same.refl _ _)⟩
  · have t5 : ((r.rn : Int) == 5) = true := by rw [beq_iff_eq]; omega
    clear h
    go_enter Tryz.func54, Tryz.ntmps54
    go_wp2_with (first
      | (go_at_call 78; with_reducible refine HFULL.out.mono ?_; rintro e w' ⟨rfl, rfl⟩)
      | (go_at_call 51; with_reducible refine HI.out.mono ?_; rintro e w' ⟨rfl, rfl⟩)
      | (go_at_call 82; with_reducible refine HT.out.mono ?_; rintro e w' ⟨rfl, hp⟩))
    go_ret
    exact ⟨rfl, hp.from HG.out (Same.refl _ _)⟩
  · have t5 : ((r.rn : Int) == 5) = true := by rw [beq_iff_eq]; omega
    have t6 : ((r.en : Int) == 0) = false := by rw [beq_eq_false_iff_ne]; omega
    have t7 : (r.en = 0) = False := eq_false he
    clear h he
    go_enter Tryz.func54, Tryz.ntmps54
    go_wp2_with (first
      | (go_at_call 78; with_reducible refine HFULL.out.mono ?_; rintro e w' ⟨rfl, rfl⟩)
      | (go_at_call 51; with_reducible refine HI.out.mono ?_; rintro e w' ⟨rfl, rfl⟩)
      | (go_at_call 82; with_reducible refine HT.out.mono ?_; rintro e w' ⟨rfl, hp⟩))
    go_ret
    exact ⟨rfl, hp.from HG.out (Same.refl _ _)⟩
set_option maxRecDepth 100000 in
set_option maxHeartbeats 6400000 in
theorem push_six (g o : Nat) (T : TypeId) (cs : List Value) (r : Rd) (w : World) (hb : Blk w g T cs) (hr : IsRd cs o r) (hok : Rd.Ok r)
    (h5 : r.rn = 5) (hh : r.inBits = true ∨ (r.inBits = false ∧ r.laid = false ∧ r.en = 0)) :
    Calls Tryz.prog 54 #[.pointer (some ⟨g, o, none⟩), .int .u8 ((sg r.rb).toNat : Int)] w fun e w' => e = .returned (.int .i64 20) ∧ RdPost w w' g o T cs r := by
  have HFULL := hid (full_calls g o T cs r.rn w hb hr.get.2.1)
  have HI := hid (inBits_calls g o T cs r w hb hr hok)
  have HO := hid (runOther_calls g o T cs r.rb w.drew hb.drew (by rw [hr.get.1, if_neg (by omega)]))
  obtain ⟨_, _, _, _, _, p5, p6⟩ := hr.get
  have q5 := (hb.drew.cell (o + 133)).trans p5
  have q6 := (hb.drew.cell (o + 134)).trans p6
  have HP := hid (show RdPost w w.drew g o T cs r from ⟨⟨cs, hb.drew, hr, Same.refl _ _⟩, grown_drew (grown_refl w (some g))⟩)
  have t5 : ((r.rn : Int) == 5) = true := by rw [beq_iff_eq]; omega
  have hne : (((sg r.rb).toNat : Int) == ((sg (!r.rb)).toNat : Int)) = false := by rw [sg_same]; cases r.rb <;> rfl
  clear hb hr hok p5 p6 h5
  generalize ((sg (!r.rb)).toNat : Int) = X at *
  rcases hh with hI | ⟨hI, hl, he⟩
  · go_enter Tryz.func54, Tryz.ntmps54
    go_wp2_with (first
      | (go_at_call 78; with_reducible refine HFULL.out.mono ?_; rintro e w' ⟨rfl, rfl⟩)
      | (go_at_call 51; with_reducible refine HI.out.mono ?_; rintro e w' ⟨rfl, rfl⟩)
      | (go_at_call 79; with_reducible refine HO.out.mono ?_; rintro e w' ⟨rfl, rfl⟩))
    go_ret
    exact ⟨rfl, HP.out⟩
  · have t6 : ((r.en : Int) == 0) = true := by rw [beq_iff_eq]; omega
    clear he
    go_enter Tryz.func54, Tryz.ntmps54
    go_wp2_with (first
      | (go_at_call 78; with_reducible refine HFULL.out.mono ?_; rintro e w' ⟨rfl, rfl⟩)
      | (go_at_call 51; with_reducible refine HI.out.mono ?_; rintro e w' ⟨rfl, rfl⟩)
      | (go_at_call 79; with_reducible refine HO.out.mono ?_; rintro e w' ⟨rfl, rfl⟩))
    go_ret
    exact ⟨rfl, HP.out⟩
set_option maxRecDepth 100000 in
set_option maxHeartbeats 6400000 in
theorem push_swap (g o : Nat) (T : TypeId) (cs : List Value) (r : Rd) (w : World) (hb : Blk w g T cs) (hr : IsRd cs o r) (hok : Rd.Ok r)
    (h5 : r.rn = 5) (hh : r.inBits = true ∨ (r.inBits = false ∧ r.laid = false ∧ r.en = 0)) :
    Calls Tryz.prog 54 #[.pointer (some ⟨g, o, none⟩), .int .u8 ((sg (!r.rb)).toNat : Int)] w fun e w' => e = .returned (.int .i64 0) ∧ RdPost w w' g o T cs { r with rn := 1, rb := !r.rb, laid := !r.inBits } := by
  have HFULL := hid (full_calls g o T cs r.rn w hb hr.get.2.1)
  have HI := hid (inBits_calls g o T cs r w hb hr hok)
  have HO := hid (runOther_calls g o T cs r.rb w.drew hb.drew (by rw [hr.get.1, if_neg (by omega)]))
  have HA := hid (runAdd_calls g o T cs r.rn r.rb (!r.rb) w.drew hok.rn hb.drew hr.isRun)
  have hrun := hr.run (!r.rb)
  have hk : runK r.rn r.rb (!r.rb) = 1 := by unfold runK; rw [if_neg]; cases r.rb <;> simp
  rw [hk] at hrun
  have hs := same_run cs o r.rn r.rb (!r.rb)
  have hok1 : Rd.Ok { r with rn := 1, rb := !r.rb } := ⟨by show 1 ≤ 1000; omega, hok.len, hok.need, hok.sum, hok.en⟩
  generalize runCells cs o r.rn r.rb (!r.rb) = cs1 at *
  have HI2 := hid (fun (W : World) (hW : Blk W g T cs1) => inBits_calls g o T cs1 _ W hW hrun hok1)
  obtain ⟨_, _, _, _, _, p5, p6⟩ := hr.get
  have q5 := (hb.drew.cell (o + 133)).trans p5
  have q6 := (hb.drew.cell (o + 134)).trans p6
  have HR := hid (hrun.lay (!r.inBits))
  obtain ⟨_, _, _, _, _, _, p7⟩ := hrun.get
  have HS := hid (hs.set 134 (.bool (!r.inBits)) (by decide))
  have HG := hid (grown_drew (grown_refl w (some g)))
  have t5 : ((r.rn : Int) == 5) = true := by rw [beq_iff_eq]; omega
  have hII : ({ r with rn := 1, rb := !r.rb } : Rd).inBits = r.inBits := rfl
  rw [hII] at HI2
  clear hb hr hok p5 p6 h5 hok1 hrun hs hk hII
  generalize hX : ((sg (!r.rb)).toNat : Int) = X at *
  clear hX
  rcases hh with hI | ⟨hI, hl, he⟩
  · rw [hI] at HI HI2 HR HS ⊢
    go_enter Tryz.func54, Tryz.ntmps54
    go_wp2_with (first
      | (go_at_call 78; with_reducible refine HFULL.out.mono ?_; rintro e w' ⟨rfl, rfl⟩)
      | (go_at_call 51; with_reducible refine HI.out.mono ?_; rintro e w' ⟨rfl, rfl⟩)
      | (go_at_call 79; with_reducible refine HO.out.mono ?_; rintro e w' ⟨rfl, rfl⟩)
      | (go_at_call 80; with_reducible refine HA.out.mono ?_; rintro e w1 ⟨rfl, hb1, hg1⟩))
    refine (HI2.out _ hb1).mono ?_
    rintro e w2 ⟨rfl, rfl⟩
    have q7 := (hb1.drew.cell (o + 134)).trans p7
    have f7 := hb1.drew.frozen (o + 134)
    have HH := hid (Here.set ⟨hb1.drew, grown_drew (grown_trans HG.out hg1)⟩ (o + 134) (.bool (!true)))
    clear hb1 hg1 p7
    go_wp2_with fail
    go_ret
    exact ⟨rfl, HH.out.post HR.out HS.out⟩
  · have t6 : ((r.en : Int) == 0) = true := by rw [beq_iff_eq]; omega
    clear he
    rw [hI] at HI HI2 HR HS ⊢
    go_enter Tryz.func54, Tryz.ntmps54
    go_wp2_with (first
      | (go_at_call 78; with_reducible refine HFULL.out.mono ?_; rintro e w' ⟨rfl, rfl⟩)
      | (go_at_call 51; with_reducible refine HI.out.mono ?_; rintro e w' ⟨rfl, rfl⟩)
      | (go_at_call 79; with_reducible refine HO.out.mono ?_; rintro e w' ⟨rfl, rfl⟩)
      | (go_at_call 80; with_reducible refine HA.out.mono ?_; rintro e w1 ⟨rfl, hb1, hg1⟩))
    refine (HI2.out _ hb1).mono ?_
    rintro e w2 ⟨rfl, rfl⟩
    have q7 := (hb1.drew.cell (o + 134)).trans p7
    have f7 := hb1.drew.frozen (o + 134)
    have HH := hid (Here.set ⟨hb1.drew, grown_drew (grown_trans HG.out hg1)⟩ (o + 134) (.bool (!false)))
    clear hb1 hg1 p7
    go_wp2_with fail
    go_ret
    exact ⟨rfl, HH.out.post HR.out HS.out⟩
set_option maxRecDepth 100000 in
set_option maxHeartbeats 6400000 in
theorem push_add (g o : Nat) (T : TypeId) (cs : List Value) (r : Rd) (c : Bool) (w : World) (hb : Blk w g T cs) (hr : IsRd cs o r) (hok : Rd.Ok r)
    (hr5 : r.rn ≤ 5) (h5 : r.rn ≠ 5) (hI : r.inBits = true) :
    Calls Tryz.prog 54 #[.pointer (some ⟨g, o, none⟩), .int .u8 ((sg c).toNat : Int)] w fun e w' =>
      e = .returned (.int .i64 ((Rd.add { r with rn := runK r.rn r.rb c, rb := c } c).2 : Int)) ∧ RdPost w w' g o T cs (Rd.add { r with rn := runK r.rn r.rb c, rb := c } c).1 := by
  have HFULL := hid (full_calls g o T cs r.rn w hb hr.get.2.1)
  have HI := hid (inBits_calls g o T cs r w hb hr hok)
  rw [hI] at HI
  have HA := hid (runAdd_calls g o T cs r.rn r.rb c w.drew hok.rn hb.drew hr.isRun)
  have hrun := hr.run c
  have hs := same_run cs o r.rn r.rb c
  have hk : runK r.rn r.rb c ≤ 1000 := by unfold runK; split <;> omega
  have hok1 : Rd.Ok { r with rn := runK r.rn r.rb c, rb := c } := ⟨hk, hok.len, hok.need, hok.sum, hok.en⟩
  generalize runCells cs o r.rn r.rb c = cs1 at *
  have HAD := hid (fun (W : World) (hW : Blk W g T cs1) => radd_calls g o T cs1 _ c W hW hrun hok1)
  have HS := hid hs
  have HG := hid (grown_drew (grown_refl w (some g)))
  have t5 : ((r.rn : Int) == 5) = false := by rw [beq_eq_false_iff_ne]; omega
  clear hb hr hok h5 hok1 hrun hs hk
  generalize Rd.add { r with rn := runK r.rn r.rb c, rb := c } c = RA at *
  go_enter Tryz.func54, Tryz.ntmps54
  go_wp2_with (first
      | (go_at_call 78; with_reducible refine HFULL.out.mono ?_; rintro e w' ⟨rfl, rfl⟩)
      | (go_at_call 51; with_reducible refine HI.out.mono ?_; rintro e w' ⟨rfl, rfl⟩)
      | (go_at_call 80; with_reducible refine HA.out.mono ?_; rintro e w1 ⟨rfl, hb1, hg1⟩)
      | (go_at_call 81; with_reducible refine (HAD.out _ hb1).mono ?_; rintro e w' ⟨rfl, hp⟩))
  go_ret
  exact ⟨rfl, hp.from (grown_trans HG.out hg1) HS.out⟩
theorem push_calls (g o : Nat) (T : TypeId) (cs : List Value) (r : Rd) (c : Bool) (w : World) (hb : Blk w g T cs) (hr : IsRd cs o r) (hok : Rd.Ok r) (hr5 : r.rn ≤ 5) (he9 : r.en ≤ 100000) :
    Calls Tryz.prog 54 #[.pointer (some ⟨g, o, none⟩), .int .u8 ((sg c).toNat : Int)] w fun e w' => e = .returned (.int .i64 ((r.push c).2 : Int)) ∧ RdPost w w' g o T cs (r.push c).1 := by
  unfold Rd.push
  by_cases hin : r.inBits = true ∨ (r.rn = 5 ∧ r.laid = false ∧ r.en = 0)
  · rw [if_pos hin]
    by_cases h5 : r.rn = 5
    · have hh : r.inBits = true ∨ (r.inBits = false ∧ r.laid = false ∧ r.en = 0) := by
        rcases hin with h | ⟨_, h⟩
        · exact .inl h
        · cases hI : r.inBits
          · exact .inr ⟨rfl, h⟩
          · exact .inl rfl
      rw [if_pos h5]
      by_cases hc : c = r.rb
      · rw [if_pos hc]
        subst hc
        exact push_six g o T cs r w hb hr hok h5 hh
      · rw [if_neg hc]
        have : c = !r.rb := by cases c <;> cases hh : r.rb <;> simp_all
        subst this
        exact push_swap g o T cs r w hb hr hok h5 hh
    · rw [if_neg h5]
      have hI : r.inBits = true := hin.elim id (fun h => absurd h.1 h5)
      exact push_add g o T cs r c w hb hr hok hr5 h5 hI
  · rw [if_neg hin]
    have hI : r.inBits = false := by
      cases h : r.inBits
      · rfl
      · exact absurd (.inl h) hin
    refine push_tail g o T cs r c w hb hr hok he9 hI ?_
    by_cases h5 : r.rn = 5
    · cases hl : r.laid
      · exact .inr (.inr ⟨h5, rfl, fun he => hin (.inr ⟨h5, hl, he⟩)⟩)
      · exact .inr (.inl ⟨h5, rfl⟩)
    · exact .inl h5
end Go.Proofs.YtpkpnaedacefaaaGreat.CodeW
