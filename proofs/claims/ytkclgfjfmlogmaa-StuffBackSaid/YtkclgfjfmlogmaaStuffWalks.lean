/- The walks of package stuff: a row's last bits alike. -/
import Derived.Test.YtkclgfjfmlogmaaBitsWalksC
import Derived.Test.YtkclgfjfmlogmaaStuffSpec
import Derived.Test.YtkclgfjfmlogmaaRegion
import Derived.Test.YtkclgfjfmlogmaaMem2
import Derived.StillTactics
namespace Go.Proofs.Ytkclgfjfmlogmaa.StuffW
set_option linter.unusedVariables false
set_option linter.unusedSimpArgs false
open Go Go.RowKit Go.Proofs.Ytkclgfjfmlogmaa.Lib Go.Proofs.Ytkclgfjfmlogmaa.Bits Go.Proofs.Ytkclgfjfmlogmaa.BitsW Go.Proofs.YtkclgfjfmlogmaaW.PrintMore
attribute [local go_sem] max2_int min2_int max_two min_two

set_option maxRecDepth 100000 in
set_option maxHeartbeats 1600000 in
theorem other_calls (b : Bool) (w : World) : Calls Try.prog 23 #[.int .u8 ((sg b).toNat : Int)] w fun e w' => e = .returned (.int .u8 ((sg (!b)).toNat : Int)) ∧ w = w' := by
  cases b
  all_goals
    go_enter Try.func23, Try.ntmps23
    go_wp2
    go_ret
    exact ⟨rfl, rfl⟩

set_option maxRecDepth 100000 in
set_option maxHeartbeats 1600000 in
theorem full_calls (g o : Nat) (T : TypeId) (cs : List Value) (n : Nat) (w : World) (hb : Blk w g T cs) (h1 : cs[o + 1]? = some (.int .i64 n)) :
    Calls Try.prog 19 #[.pointer (some ⟨g, o, none⟩)] w fun e w' => e = .returned (.bool ((n : Int) == 5)) ∧ w = w' := by
  have hc := (hb.cell (o + 1)).trans h1
  go_enter Try.func19, Try.ntmps19
  go_wp2
  go_ret
  exact ⟨rfl, rfl⟩

set_option maxRecDepth 100000 in
set_option maxHeartbeats 1600000 in
theorem runOther_calls (g o : Nat) (T : TypeId) (cs : List Value) (b : Bool) (w : World) (hb : Blk w g T cs) (h1 : cs[o]? = some (.int .u8 ((sg b).toNat : Int))) :
    Calls Try.prog 20 #[.pointer (some ⟨g, o, none⟩)] w fun e w' => e = .returned (.int .u8 ((sg (!b)).toNat : Int)) ∧ w = w' := by
  have hc := (hb.cell o).trans h1
  go_enter Try.func20, Try.ntmps20
  go_wp2_with (go_at_call 23; refine (other_calls _ _).mono ?_; rintro e w' ⟨rfl, rfl⟩)
  go_ret
  exact ⟨rfl, rfl⟩

/-- A run's cells in a block: its last bit, how many there are alike. Where there is none yet, the last one is 0, whatever b says. -/
def IsRun (cs : List Value) (o : Nat) (n : Nat) (b : Bool) : Prop := cs[o]? = some (.int .u8 (if n = 0 then 0 else ((sg b).toNat : Int))) ∧ cs[o + 1]? = some (.int .i64 n)
/-- The cells behind a bit more. -/
def runCells (cs : List Value) (o : Nat) (n : Nat) (b c : Bool) : List Value := (cs.set o (.int .u8 ((sg c).toNat : Int))).set (o + 1) (.int .i64 (runK n b c))
theorem runK_pos (n : Nat) (b c : Bool) : runK n b c ≠ 0 := by unfold runK; split <;> omega
theorem isRun_next (cs : List Value) (o n : Nat) (b c : Bool) (h : IsRun cs o n b) : IsRun (runCells cs o n b c) o (runK n b c) c := by
  have h1 := (List.getElem?_eq_some_iff.1 h.1).1
  have h2 := (List.getElem?_eq_some_iff.1 h.2).1
  have h3 := runK_pos n b c
  unfold IsRun runCells
  rw [if_neg h3]
  constructor
  · rw [List.getElem?_set_ne (by omega), List.getElem?_set_self h1]
  · rw [List.getElem?_set_self (by rw [List.length_set]; exact h2)]
theorem sg_same (b c : Bool) : ((((sg c).toNat : Int)) == ((sg b).toNat : Int)) = (c == b) := by cases b <;> cases c <;> rfl

set_option maxRecDepth 100000 in
set_option maxHeartbeats 1600000 in
theorem runAdd_calls (g o : Nat) (T : TypeId) (cs : List Value) (n : Nat) (b c : Bool) (w : World) (hn : n ≤ 1000) (hb : Blk w g T cs) (hr : IsRun cs o n b) :
    Calls Try.prog 18 #[.pointer (some ⟨g, o, none⟩), .int .u8 ((sg c).toNat : Int)] w fun e w' => e = .returned (.tuple #[]) ∧ Blk w' g T (runCells cs o n b c) ∧ w.grownBy w' (some g) := by
  have hc0 := (hb.cell o).trans hr.1
  have hc1 := (hb.cell (o + 1)).trans hr.2
  have hf0 := hb.frozen o
  have hf1 := hb.frozen (o + 1)
  have HR := hid hr
  have hu := Try.underlying41
  clear hr
  have fin : ∀ x : Int, x = (runK n b c : Int) → Blk ((w.setCell ⟨g, o, none⟩ (.int .u8 ((sg c).toNat : Int))).setCell ⟨g, o + 1, none⟩ (.int .i64 x)) g T (runCells cs o n b c) := by
    intro x hx
    subst hx
    exact (hb.set o _).set (o + 1) _
  have hFIN := hid fin
  clear fin
  by_cases h0 : n = 0
  · subst h0
    have h2 : runK 0 b c = 1 := by unfold runK; rw [if_neg (by omega)]
    have H2 := hid h2
    clear h2
    go_enter Try.func18, Try.ntmps18
    go_wp2
    go_end0
    exact ⟨rfl, hFIN.out 1 (by rw [H2.out]; rfl), grown_set (grown_set (grown_refl _ _) _ _) _ _⟩
  · rw [if_neg h0] at hc0
    have hn0 : 0 < (n : Int) := by omega
    have hs := sg_same b c
    by_cases hbc : c = b
    · subst hbc
      have h2 : runK n c c = n + 1 := by unfold runK; rw [if_pos ⟨by omega, rfl⟩]
      have h3 : runCells cs o n c c = cs.set (o + 1) (.int .i64 ((n + 1 : Nat) : Int)) := by
        unfold runCells
        rw [h2]
        congr 1
        apply List.ext_getElem?
        intro j
        have h4 := HR.out.1
        rw [if_neg h0] at h4
        by_cases hj : o = j
        · subst hj
          rw [List.getElem?_set_self (List.getElem?_eq_some_iff.1 h4).1, h4]
        · rw [List.getElem?_set_ne hj]
      have hfin : ∀ x : Int, x = ((n + 1 : Nat) : Int) → Blk (w.setCell ⟨g, o + 1, none⟩ (.int .i64 x)) g T (runCells cs o n c c) := by
        intro x hx
        subst hx
        rw [h3]
        exact hb.set (o + 1) _
      have HF2 := hid hfin
      have hs2 : ((((sg c).toNat : Int)) == ((sg c).toNat : Int)) = true := by rw [hs]; simp
      clear h2 h3 hfin hs
      generalize ((sg c).toNat : Int) = x at *
      go_enter Try.func18, Try.ntmps18
      go_wp2
      refine bodyPost_ret (results_none (by rfl) _ _ _) rfl ?_
      exact ⟨rfl, HF2.out _ (by omega), grown_set (grown_refl _ _) _ _⟩
    · have hs2 : ((((sg c).toNat : Int)) == ((sg b).toNat : Int)) = false := by rw [hs]; exact beq_eq_false_iff_ne.2 hbc
      have h2 : runK n b c = 1 := by unfold runK; rw [if_neg (fun h => hbc h.2.symm)]
      have H2 := hid h2
      clear h2 hs
      generalize hy : ((sg b).toNat : Int) = y at *
      clear hy
      go_enter Try.func18, Try.ntmps18
      go_wp2
      go_end0
      exact ⟨rfl, hFIN.out 1 (by rw [H2.out]; rfl), grown_set (grown_set (grown_refl _ _) _ _) _ _⟩
end Go.Proofs.Ytkclgfjfmlogmaa.StuffW
