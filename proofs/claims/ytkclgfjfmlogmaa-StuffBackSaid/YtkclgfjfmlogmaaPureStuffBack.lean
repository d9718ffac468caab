/- StuffBack (layer 2): what was laid between is taken away again; no row is shorter or longer than it may be; nowhere are more than five alike; the last bit may have been laid. Conditions: none beyond the types of the arguments. -/
import Derived.Test.YtkclgfjfmlogmaaQStuffBackx
import Derived.Test.YtkclgfjfmlogmaaStuffMath2
namespace Go.Proofs.Ytkclgfjfmlogmaa.Pure
set_option linter.unusedVariables false
set_option linter.unusedSimpArgs false
open Go.RowKit Go.Proofs.Ytkclgfjfmlogmaa.QStuffBack Go.Proofs.YtkclgfjfmlogmaaW.PrintWords Go.Proofs.YtkclgfjfmlogmaaW.PrintLast Go.Proofs.YtkclgfjfmlogmaaW.PrintMore
open Go.Proofs.Ytkclgfjfmlogmaa.Facts Go.Proofs.Ytkclgfjfmlogmaa.Bits Go.Proofs.Ytkclgfjfmlogmaa.BitsW Go.Proofs.Ytkclgfjfmlogmaa.Plug Go.Proofs.Ytkclgfjfmlogmaa.StuffW

theorem known_tells : ostinatolaw2_known.f = some true := by decide +kernel

/-- Where five are alike ahead of the last bit, that was laid. -/
theorem back_last (l p : List Bool) (c : Bool) (h : stuff l = p ++ [c]) (h5 : (runL 0 false p).1 = 5) : (unstuffL 0 false 0 p).1 = l ∧ (unstuffL 0 false 0 p).2.2.2 = none := by
  obtain ⟨hu, hn⟩ := unstuff_stuff l
  rw [h] at hu hn
  have hp := unstuff_prefix p [c] 0 false 0 hn
  have hr := unstuff_run p 0 false 0 hp
  rw [unstuff_append p [c] 0 false 0 hp] at hu hn
  have e1 : (unstuffL 0 false 0 p).2.1 = 5 := by rw [← h5]; exact congrArg Prod.fst hr
  rw [e1] at hu hn
  simp only at hu hn
  refine ⟨?_, hp⟩
  have : ∀ b i, (unstuffL 5 b i [c]).1 = [] := by
    intro b i
    unfold unstuffL
    split
    · rfl
    · rw [if_pos rfl]; rfl
  rw [this, List.append_nil] at hu
  exact hu
/-- Where four alike stand ahead of one more alike. -/
theorem five_alike (s : List Bool) (k : Nat) (hk : k ≤ s.length) (h5 : 5 ≤ k) (hle : (runL 0 false (s.take k)).1 ≤ 5) (e1 : s[k - 1]? = s[k - 2]?) (e2 : s[k - 2]? = s[k - 3]?) (e3 : s[k - 3]? = s[k - 4]?) (e4 : s[k - 4]? = s[k - 5]?) : (runL 0 false (s.take k)).1 = 5 := by
  obtain ⟨r1, r2, r3, r4⟩ := runL_spec s k hk
  have r4 := r4 (by omega)
  have h0 := r2 0 r4
  rw [show k - 1 - 0 = k - 1 by omega] at h0
  generalize runL 0 false (s.take k) = u at *
  obtain ⟨m, b⟩ := u
  simp only at *
  by_cases hm : m = 5
  · exact hm
  · have h3 := r3 (by omega)
    have : m = 1 ∨ m = 2 ∨ m = 3 ∨ m = 4 := by omega
    exfalso
    rcases this with rfl | rfl | rfl | rfl
    · rw [show k - 1 - 1 = k - 2 by omega, ← e1, h0] at h3; cases b <;> cases h3
    · rw [show k - 1 - 2 = k - 3 by omega, ← e2, ← e1, h0] at h3; cases b <;> cases h3
    · rw [show k - 1 - 3 = k - 4 by omega, ← e3, ← e2, ← e1, h0] at h3; cases b <;> cases h3
    · rw [show k - 1 - 4 = k - 5 by omega, ← e4, ← e3, ← e2, ← e1, h0] at h3; cases b <;> cases h3
/-- Where a bit must come next, one was laid. -/
theorem back_next (l : List Bool) (h : nextL l ≥ 0) : stuff l ≠ l := by
  intro e
  rw [next_val] at h
  by_cases hs : (unstuffL 0 false 0 l).2.2.2.isSome = true
  · rw [if_pos hs] at h; omega
  · rw [if_neg hs] at h
    by_cases h5 : (unstuffL 0 false 0 l).2.1 = 5
    · have hn : (unstuffL 0 false 0 l).2.2.2 = none := by simpa using hs
      have hr := unstuff_run l 0 false 0 hn
      have hl := stuff_none l 0 false (by omega) (congrArg List.length e)
      have e1 : (unstuffL 0 false 0 l).2.1 = (runL 0 false l).1 := congrArg Prod.fst hr
      omega
    · rw [if_neg h5] at h; omega

theorem le_five (n : Nat) (h : n ≤ 5) : ¬ ((n : Int) > 5) := by omega
theorem wrap_five (n : Nat) (h : n + 1 ≤ 5) : wrap64 ((n : Int) + 1) = ((n + 1 : Nat) : Int) := by unfold wrap64; omega
theorem back_one (i : Nat) (h : 0 < i) (hi : i ≤ 1000) : wrap64 ((i : Int) - 1) = ((i - 1 : Nat) : Int) := by unfold wrap64; omega
theorem back_end (l : List Bool) (hl : l.length ≤ 128) (k : Nat) : ostinatolaw2_StuffBack.j3 (k + 1) (B l) (B (stuff l)) ((runL 0 false (stuff l)).1 : Int) false = some true := by
  have h2 := stuff_len l
  have hun := stuffed_run l
  have hbk := back_last l
  generalize hs : stuff l = s at *
  rw [ostinatolaw2_StuffBack.j3, if_neg (by decide), B_size]
  by_cases c1 : (s.length : Int) > 0
  · rw [if_pos c1]
    by_cases c2 : ((runL 0 false s).1 : Int) = 1
    · rw [if_pos c2]
      by_cases c3 : (s.length : Int) > 5
      · have w1 : wrap64 ((s.length : Int) - 1) = ((s.length - 1 : Nat) : Int) := by unfold wrap64; omega
        have w2 : wrap64 ((s.length : Int) - 2) = ((s.length - 2 : Nat) : Int) := by unfold wrap64; omega
        have w3 : wrap64 ((s.length : Int) - 3) = ((s.length - 3 : Nat) : Int) := by unfold wrap64; omega
        have w4 : wrap64 ((s.length : Int) - 4) = ((s.length - 4 : Nat) : Int) := by unfold wrap64; omega
        have w5 : wrap64 ((s.length : Int) - 5) = ((s.length - 5 : Nat) : Int) := by unfold wrap64; omega
        have w6 : wrap64 ((s.length : Int) - 6) = ((s.length - 6 : Nat) : Int) := by unfold wrap64; omega
        have g : ∀ i, (h : i < s.length) → s[i]? = some s[i] := fun i h => List.getElem?_eq_getElem h
        rw [if_pos c3, w1, w2, w3, w4, w5, w6, bt_B s (s.length - 2) (by omega), bt_B s (s.length - 3) (by omega), bt_B s (s.length - 4) (by omega), bt_B s (s.length - 5) (by omega), bt_B s (s.length - 6) (by omega)]
        rw [if_pos (by omega), if_pos (by omega), if_pos (by omega), if_pos (by omega)]
        by_cases q1 : s[s.length - 2] = s[s.length - 6]
        · rw [if_pos ((sg_num _ _).2 q1), if_pos (by omega), if_pos (by omega)]
          by_cases q2 : s[s.length - 2] = s[s.length - 3]
          · rw [if_pos ((sg_num _ _).2 q2), if_pos (by omega), if_pos (by omega)]
            by_cases q3 : s[s.length - 3] = s[s.length - 4]
            · rw [if_pos ((sg_num _ _).2 q3), if_pos (by omega), if_pos (by omega)]
              by_cases q4 : s[s.length - 4] = s[s.length - 5]
              · rw [if_pos ((sg_num _ _).2 q4), if_pos (by omega), if_pos (by omega), Int.toNat_natCast, B_extract, List.drop_zero, Nat.sub_zero]
                have hcut : s = s.take (s.length - 1) ++ [s[s.length - 1]] := by
                  rw [← take_one s (s.length - 1) (by omega), show s.length - 1 + 1 = s.length by omega, List.take_length]
                have h5 := five_alike s (s.length - 1) (by omega) (by omega) (hun _)
                  (by rw [show s.length - 1 - 1 = s.length - 2 by omega, show s.length - 1 - 2 = s.length - 3 by omega, g _ (by omega), g _ (by omega), q2])
                  (by rw [show s.length - 1 - 2 = s.length - 3 by omega, show s.length - 1 - 3 = s.length - 4 by omega, g _ (by omega), g _ (by omega), q3])
                  (by rw [show s.length - 1 - 3 = s.length - 4 by omega, show s.length - 1 - 4 = s.length - 5 by omega, g _ (by omega), g _ (by omega), q4])
                  (by rw [show s.length - 1 - 4 = s.length - 5 by omega, show s.length - 1 - 5 = s.length - 6 by omega, g _ (by omega), g _ (by omega), ← q1, ← q4, ← q3, ← q2])
                obtain ⟨b1, b2⟩ := hbk (s.take (s.length - 1)) s[s.length - 1] hcut h5
                rw [unstuff_f _ (by rw [List.length_take]; omega), Option.bind_some]
                simp only
                rw [b1, b2, if_pos rfl]
                rfl
              · rw [if_neg (fun h => q4 ((sg_num _ _).1 h))]
            · rw [if_neg (fun h => q3 ((sg_num _ _).1 h))]
          · rw [if_neg (fun h => q2 ((sg_num _ _).1 h))]
        · rw [if_neg (fun h => q1 ((sg_num _ _).1 h))]
      · rw [if_neg c3]
    · rw [if_neg c2]
  · rw [if_neg c1]

theorem back_from (l : List Bool) (hl : l.length ≤ 128) (d : Nat) : ∀ (k i : Nat), i ≤ (stuff l).length → (stuff l).length - i = d → 2 * d + 3 < k →
    ostinatolaw2_StuffBack.l0 k (B l) (B (stuff l)) ((runL 0 false ((stuff l).take i)).1 : Int) (i : Int) = some true := by
  have h2 := stuff_len l
  induction d with
  | zero =>
    intro k i hi hd hk
    obtain ⟨k, rfl⟩ : ∃ m, k = m + 1 + 1 := ⟨k - 2, by omega⟩
    obtain rfl : i = (stuff l).length := by omega
    have he := back_end l hl k
    rw [ostinatolaw2_StuffBack.l0, B_size, if_neg (by omega), List.take_length, next_f l (by omega), Option.bind_some]
    by_cases hn : nextL l ≥ 0
    · have hne : ((B (stuff l)).toList == (B l).toList) = false := by
        refine beq_eq_false_iff_ne.mpr (fun h => back_next l hn ?_)
        exact B_inj ((text_eq _ _).1 h)
      rw [if_pos hn, hne]
      exact he
    · rw [if_neg hn]
      exact he
  | succ d ih =>
    intro k i hi hd hk
    obtain ⟨k, rfl⟩ : ∃ m, k = m + 1 + 1 := ⟨k - 2, by omega⟩
    have hrun := stuffed_run l (i + 1)
    have hih := ih k (i + 1) (by omega) (by omega) (by omega)
    obtain ⟨r1, r2, r3, r4⟩ := runL_spec (stuff l) i (by omega)
    have hx0 : 0 < i → (stuff l)[i - 1]? = some (runL 0 false ((stuff l).take i)).2 := fun h => by
      have := r2 0 (r4 h)
      rw [Nat.sub_zero] at this
      exact this
    clear r1 r2 r3
    rw [runL_take (stuff l) i (by omega)] at hrun hih
    simp only at hrun hih
    clear ih
    have hi1 : i < (stuff l).length := by omega
    have hx1 : (stuff l)[i]? = some (stuff l)[i] := List.getElem?_eq_getElem hi1
    revert hx1 hih hrun
    generalize (stuff l)[i] = c
    intro hih hrun hx1
    generalize stuff l = s at *
    have hbc : bt (B s) (i : Int) = ((sg c).toNat : Int) := by
      rw [bt_B s i hi1]
      have := List.getElem?_eq_getElem hi1
      rw [hx1, Option.some.injEq] at this
      rw [this]
    have hst : wrap64 ((i : Int) + 1) = ((i + 1 : Nat) : Int) := step_up i 1000 (by omega) (by omega)
    have hj : ∀ same : Bool, runK (runL 0 false (s.take i)).1 (runL 0 false (s.take i)).2 c = (if same then (runL 0 false (s.take i)).1 + 1 else 1) →
        ostinatolaw2_StuffBack.j2 (k + 1) (B l) (B s) ((runL 0 false (s.take i)).1 : Int) (i : Int) same = some true := by
      intro same hs
      rw [hs] at hrun hih
      rw [ostinatolaw2_StuffBack.j2, hst]
      cases same with
      | true =>
        simp only [if_true] at hrun hih
        have hw : wrap64 (((runL 0 false (s.take i)).1 : Int) + 1) = (((runL 0 false (s.take i)).1 + 1 : Nat) : Int) := wrap_five _ hrun
        rw [if_pos rfl, hw, if_neg (le_five _ hrun)]
        exact hih
      | false =>
        have e1 : (if false = true then (runL 0 false (s.take i)).1 + 1 else 1) = 1 := if_neg (by decide)
        rw [e1, show ((1 : Nat) : Int) = 1 from rfl] at hih
        rw [if_neg (by decide), if_neg (by decide)]
        exact hih
    rw [ostinatolaw2_StuffBack.l0, B_size, if_pos (by omega)]
    by_cases h0 : (i : Int) > 0
    · have hi0 : 0 < i := by omega
      have hi2 : i - 1 < s.length := by omega
      have w1 : wrap64 ((i : Int) - 1) = ((i - 1 : Nat) : Int) := back_one i hi0 (by omega)
      have hx := hx0 hi0
      have r4 := r4 hi0
      rw [List.getElem?_eq_getElem hi2, Option.some.injEq] at hx
      have g1 : (0 : Int) ≤ (i : Int) := Int.natCast_nonneg _
      have g2 : (0 : Int) ≤ ((i - 1 : Nat) : Int) := Int.natCast_nonneg _
      have g3 : ((i - 1 : Nat) : Int) < (s.length : Int) := Int.ofNat_lt.2 hi2
      rw [if_pos h0, if_pos g1, w1, if_pos g2, if_pos g3, hbc, bt_B s (i - 1) hi2, hx]
      refine hj _ ?_
      unfold runK
      by_cases e : (runL 0 false (s.take i)).2 = c
      · rw [if_pos ⟨r4, e⟩, if_pos (by rw [e]; exact beq_self_eq_true _)]
      · rw [if_neg (fun x => e x.2), if_neg]
        intro hh
        exact e ((sg_num _ _).1 (beq_iff_eq.mp hh)).symm
    · rw [if_neg h0]
      refine hj false ?_
      unfold runK
      have hi0 : i = 0 := by omega
      rw [if_neg (fun x => by have := x.1; rw [hi0] at this; exact absurd this (by simp [runL]))]
      rfl

theorem StuffBack : ostinatolaw2_StuffBack.Pure := by
  intro n m wd hn hm hwd
  have bw := bounds_u8 hwd
  refine ⟨600, ?_⟩
  unfold ostinatolaw2_StuffBack.f
  rw [known_tells, Option.bind_some, if_pos rfl, rof_f _ _ hn, Option.bind_some, rof_f _ _ hm, Option.bind_some]
  have hl1 : (ofN n.toNat (wid (wrap64 (Int.tmod wd 65)))).length ≤ 64 := by rw [ofN_length, wid_mod _ (by omega)]; omega
  have hl2 : (ofN m.toNat (wid (Int.tdiv wd 4 % 256))).length ≤ 64 := by
    rw [ofN_length, Int.tdiv_eq_ediv_of_nonneg (by omega)]
    unfold wid
    omega
  generalize ofN n.toNat (wid (wrap64 (Int.tmod wd 65))) = a at *
  generalize ofN m.toNat (wid (Int.tdiv wd 4 % 256)) = b at *
  rw [B_size, B_size, if_pos (by omega), B_append]
  have hl : (a ++ b).length ≤ 128 := by rw [List.length_append]; omega
  generalize a ++ b = l at *
  have h2 := stuff_len l
  have h3 := stuff_ge l
  have hb := stuff_bound l (by omega)
  obtain ⟨hu, hun⟩ := unstuff_stuff l
  rw [stuff_f _ (by omega), Option.bind_some, unstuff_f _ (by omega), Option.bind_some]
  simp only
  rw [hu, hun, at_none, if_pos rfl, if_pos rfl, most_f, Option.bind_some, B_size, B_size, if_neg (by omega)]
  have hd : decide (((stuff l).length : Int) < (l.length : Int)) = false := decide_eq_false (by omega)
  rw [hd, ostinatolaw2_StuffBack.j0, if_neg (by decide)]
  have := back_from l hl (stuff l).length 599 0 (by omega) (by omega) (by omega)
  exact this

end Go.Proofs.Ytkclgfjfmlogmaa.Pure
