/- StuffQuiet (layer 2): a row of 01 and 011 is left as it is, both ways, and any bit may come next, for every row of at most a hundred. Conditions: none beyond the types of the arguments; longer rows are let pass. -/
import Derived.Test.YtkclgfjfmlogmaaQStuffQuietx
import Derived.Test.YtkclgfjfmlogmaaStuffMath2
namespace Go.Proofs.Ytkclgfjfmlogmaa.Pure
set_option linter.unusedVariables false
set_option linter.unusedSimpArgs false
open Go.RowKit Go.Proofs.Ytkclgfjfmlogmaa.QStuffQuiet Go.Proofs.YtkclgfjfmlogmaaW.PrintWords Go.Proofs.YtkclgfjfmlogmaaW.PrintLast Go.Proofs.YtkclgfjfmlogmaaW.PrintMore
open Go.Proofs.Ytkclgfjfmlogmaa.Facts Go.Proofs.Ytkclgfjfmlogmaa.Bits Go.Proofs.Ytkclgfjfmlogmaa.BitsW Go.Proofs.Ytkclgfjfmlogmaa.Plug Go.Proofs.Ytkclgfjfmlogmaa.StuffW

theorem known_tells : ostinatolaw2_known.f = some true := by decide +kernel

theorem quiet_ask (l : List Bool) (h : l.length ≤ 100) : ((stuff_Unstuff.f (B (quiet l))).bind fun bt113 => ((stuff_Stuff.f (B (quiet l))).bind fun t115 => (if t115.toList = (B (quiet l)).toList then (if bt113.1.toList = (B (quiet l)).toList then (if bt113.2 = (-1) then ((stuff_Next.f (B (quiet l))).bind fun t116 => (some (t116 == (-1)))) else (some false)) else (some false)) else (some false)))) = some true := by
  obtain ⟨h1, h2, h3, h4⟩ := quiet_stuff l
  have hq := quiet_length l
  rw [unstuff_f _ (by omega), Option.bind_some, stuff_f _ (by omega), Option.bind_some, h1, if_pos rfl]
  simp only
  rw [h2, h3, at_none, if_pos rfl, if_pos rfl, next_f _ (by omega), Option.bind_some, quiet_next]
  rfl
theorem quiet_from (l : List Bool) (hl : l.length ≤ 100) (d : Nat) : ∀ (k i : Nat), i ≤ l.length → l.length - i = d → d < k →
    ostinatolaw2_StuffQuiet.l0 k l (B (quiet (l.take i))) (i : Int) = some true := by
  induction d with
  | zero =>
    intro k i hi hd hk
    obtain ⟨k, rfl⟩ : ∃ m, k = m + 1 := ⟨k - 1, by omega⟩
    have e : i = l.length := by omega
    subst e
    rw [ostinatolaw2_StuffQuiet.l0, if_neg (by omega), List.take_length]
    exact quiet_ask l hl
  | succ d ih =>
    intro k i hi hd hk
    obtain ⟨k, rfl⟩ : ∃ m, k = m + 1 := ⟨k - 1, by omega⟩
    have hst : wrap64 ((i : Int) + 1) = ((i + 1 : Nat) : Int) := step_up i 200 (by omega) (by omega)
    have hih := ih k (i + 1) (by omega) (by omega) (by omega)
    rw [take_one l i (by omega), quiet_append] at hih
    have hq := quiet_length (l.take i)
    have ht : (l.take i).length = i := by rw [List.length_take]; omega
    have h01 : (⟨#[48, 49]⟩ : ByteArray) = B [false, true] := rfl
    have h1 : (⟨#[49]⟩ : ByteArray) = B [true] := rfl
    have hr : rdOf false l (i : Int) = l[i]'(by omega) := by
      unfold rdOf
      rw [Int.toNat_natCast, List.getD_eq_getElem?_getD, List.getElem?_eq_getElem (by omega)]
      rfl
    rw [ostinatolaw2_StuffQuiet.l0, if_pos (by omega), h01, h1, B_append, B_append, B_size, B_size, if_pos (by omega), if_pos (by omega), hr, hst]
    generalize l[i]'(by omega) = x at *
    cases x with
    | true =>
      rw [if_pos rfl, if_pos (by rw [List.length_append]; simp; omega), List.append_assoc]
      exact hih
    | false =>
      rw [if_neg (by decide)]
      exact hih

theorem StuffQuiet : ∀ (l : List Bool), ∃ k, ostinatolaw2_StuffQuiet.f k l = some true := by
  intro l
  refine ⟨l.length + 1, ?_⟩
  unfold ostinatolaw2_StuffQuiet.f
  rw [known_tells, Option.bind_some, if_pos rfl]
  by_cases h : (l.length : Int) > 100
  · rw [if_pos h]
  · rw [if_neg h]
    exact quiet_from l (by omega) l.length (l.length + 1) 0 (by omega) (by omega) (by omega)

theorem StuffQuiet_walk (A0 : Option Addr) (n c : Nat) (w : World) (h : ∃ l : List Bool, l.length = n ∧ n ≤ c ∧ Kd.C Kd.bool w A0 n l) :
    Calls Try.prog 8 #[.slice A0 n c] w fun e w' => e = .returned (.bool true) ∧ Below w.heap.size w w' := by
  obtain ⟨l, rfl, hc, hk⟩ := h
  obtain ⟨k, hf⟩ := StuffQuiet l
  exact ostinatolaw2_StuffQuiet.calls k A0 c l true w hk hc hf

end Go.Proofs.Ytkclgfjfmlogmaa.Pure
