/- StuffSix (layer 2): where bits alike are laid behind a row until six are alike, the sixth is met there, and what must come next is told. Conditions: none beyond the types of the arguments. -/
import Derived.Test.YtkclgfjfmlogmaaQStuffSixx
import Derived.Test.YtkclgfjfmlogmaaStuffMath2
namespace Go.Proofs.Ytkclgfjfmlogmaa.Pure
set_option linter.unusedVariables false
set_option linter.unusedSimpArgs false
open Go.RowKit Go.Proofs.Ytkclgfjfmlogmaa.QStuffSix Go.Proofs.YtkclgfjfmlogmaaW.PrintWords Go.Proofs.YtkclgfjfmlogmaaW.PrintLast Go.Proofs.YtkclgfjfmlogmaaW.PrintMore
open Go.Proofs.Ytkclgfjfmlogmaa.Facts Go.Proofs.Ytkclgfjfmlogmaa.Bits Go.Proofs.Ytkclgfjfmlogmaa.BitsW Go.Proofs.Ytkclgfjfmlogmaa.Plug Go.Proofs.Ytkclgfjfmlogmaa.StuffW

theorem known_tells : ostinatolaw2_known.f = some true := by decide +kernel

/-- What is met behind a row that ends with m alike, when more alike come. -/
theorem six_met (s : List Bool) (m M : Nat) (c : Bool) (hn : (unstuffL 0 false 0 s).2.2.2 = none) (hr : runL 0 false s = (m, c)) (h1 : 1 ≤ m) (h5 : m ≤ 5) (h6 : 6 ≤ m + M) :
    (unstuffL 0 false 0 (s ++ List.replicate M c)).2.2.2 = some (s.length + (5 - m)) := by
  have hu := unstuff_run s 0 false 0 hn
  rw [hr] at hu
  have e1 : (unstuffL 0 false 0 s).2.1 = m := congrArg Prod.fst hu
  have e2 : (unstuffL 0 false 0 s).2.2.1 = c := congrArg Prod.snd hu
  rw [unstuff_append s _ 0 false 0 hn, e1, e2]
  simp only
  rw [unstuff_six M m c _ h1 h5 h6, Nat.zero_add]

theorem six_next (s : List Bool) (m M : Nat) (c : Bool) (hn : (unstuffL 0 false 0 s).2.2.2 = none) (hr : runL 0 false s = (m, c)) (h1 : 1 ≤ m) (h5 : m ≤ 5) (h6 : 6 ≤ m + M) :
    nextL (s ++ List.replicate M c) = -2 := by
  rw [next_val, six_met s m M c hn hr h1 h5 h6]
  rfl

theorem six_more (s : List Bool) (hs : s.length ≤ 128) (a2 : Int) (b2 : 0 ≤ a2 ∧ a2 ≤ 255) (m : Nat) (c : Bool) (hn : (unstuffL 0 false 0 s).2.2.2 = none) (hr : runL 0 false s = (m, c)) (h1 : 1 ≤ m) (h5 : m ≤ 5)
    (d : Nat) : ∀ (k M : Nat), M ≤ 10 → 6 + (a2 % 5).toNat - (m + M) = d → m + M ≤ 6 + (a2 % 5).toNat → d < k →
    ostinatolaw2_StuffSix.l1 k a2 (B s) ((sg c).toNat : Int) (m : Int) (B (s ++ List.replicate M c)) ((m + M : Nat) : Int) = some true := by
  have hw : wrap64 (6 + wrap64 (Int.tmod a2 5)) = ((6 + (a2 % 5).toNat : Nat) : Int) := by rw [Int.tmod_eq_emod_of_nonneg b2.1]; unfold wrap64; omega
  induction d with
  | zero =>
    intro k M hM hd hle hk
    obtain ⟨k, rfl⟩ : ∃ m, k = m + 1 := ⟨k - 1, by omega⟩
    have hp : wrap64 (wrap64 (((B s).size : Int) + 5) - (m : Int)) = ((s.length + (5 - m) : Nat) : Int) := by
      have hq : wrap64 (((B s).size : Int) + 5) = ((s.length + 5 : Nat) : Int) := by rw [B_size]; unfold wrap64; omega
      have hv : ((s.length + 5 : Nat) : Int) - (m : Int) = ((s.length + (5 - m) : Nat) : Int) := by omega
      rw [hq, hv]
      unfold wrap64
      omega
    have hl : (s ++ List.replicate M c).length ≤ 1000 := by simp; omega
    rw [ostinatolaw2_StuffSix.l1, hw, if_neg (by omega), unstuff_f _ (by omega), Option.bind_some, hp]
    simp only
    rw [six_met s m M c hn hr h1 h5 (by omega), at_some, if_pos rfl, next_f _ (by omega), Option.bind_some, six_next s m M c hn hr h1 h5 (by omega)]
    rfl
  | succ d ih =>
    intro k M hM hd hle hk
    obtain ⟨k, rfl⟩ : ∃ m, k = m + 1 := ⟨k - 1, by omega⟩
    have hst : wrap64 (((m + M : Nat) : Int) + 1) = ((m + (M + 1) : Nat) : Int) := by unfold wrap64; omega
    have hl : (s ++ List.replicate M c).length ≤ 1000 := by simp; omega
    have hih := ih k (M + 1) (by omega) (by omega) (by omega) (by omega)
    rw [List.replicate_succ', ← List.append_assoc] at hih
    rw [ostinatolaw2_StuffSix.l1, hw, if_pos (by omega), Option.bind_some, nums_one, B_append, B_size, B_size, if_pos (by simp at hl ⊢; omega), hst]
    exact hih

theorem six_back (s : List Bool) (hs : s.length ≤ 128) (hs0 : 0 < s.length) (a2 : Int) (b2 : 0 ≤ a2 ∧ a2 ≤ 255) (m : Nat) (c : Bool) (hn : (unstuffL 0 false 0 s).2.2.2 = none) (hr : runL 0 false s = (m, c)) (h5 : m ≤ 5)
    (d : Nat) : ∀ (k j : Nat), j ≤ m → m - j = d → d + 30 < k →
    ostinatolaw2_StuffSix.l0 k a2 (B s) ((sg c).toNat : Int) (j : Int) ((s.length : Int) - 1 - (j : Int)) = some true := by
  obtain ⟨r1, r2, r3, r4⟩ := runL_spec s s.length (Nat.le_refl _)
  rw [List.take_length, hr] at r1 r2 r3 r4
  simp only at r1 r2 r3 r4
  have h1 := r4 hs0
  have hj : ∀ k, 20 < k → ostinatolaw2_StuffSix.j1 k a2 (B s) ((sg c).toNat : Int) (m : Int) = some true := by
    intro k hk
    obtain ⟨k, rfl⟩ : ∃ m, k = m + 1 := ⟨k - 1, by omega⟩
    rw [ostinatolaw2_StuffSix.j1]
    have := six_more s hs a2 b2 m c hn hr h1 h5 (6 + (a2 % 5).toNat - (m + 0)) k 0 (by omega) rfl (by omega) (by omega)
    simpa using this
  induction d with
  | zero =>
    intro k j hjm hd hk
    obtain ⟨k, rfl⟩ : ∃ m, k = m + 1 := ⟨k - 1, by omega⟩
    obtain rfl : j = m := by omega
    rw [ostinatolaw2_StuffSix.l0]
    by_cases hlt : j < s.length
    · have hx := r3 hlt
      have hi : s.length - 1 - j < s.length := by omega
      rw [List.getElem?_eq_getElem hi, Option.some.injEq] at hx
      have ei : (s.length : Int) - 1 - (j : Int) = ((s.length - 1 - j : Nat) : Int) := by omega
      rw [ei, B_size, if_pos (by omega), if_pos (by omega), if_pos (by omega), bt_B s _ hi, hx, if_neg (by cases c <;> decide)]
      exact hj k (by omega)
    · rw [if_neg (by omega)]
      exact hj k (by omega)
  | succ d ih =>
    intro k j hjm hd hk
    obtain ⟨k, rfl⟩ : ∃ m, k = m + 1 := ⟨k - 1, by omega⟩
    have hi : s.length - 1 - j < s.length := by omega
    have hx := r2 j (by omega)
    rw [List.getElem?_eq_getElem hi, Option.some.injEq] at hx
    have hih := ih k (j + 1) (by omega) (by omega) (by omega)
    have ei : (s.length : Int) - 1 - (j : Int) = ((s.length - 1 - j : Nat) : Int) := by omega
    have e1 : wrap64 ((j : Int) + 1) = ((j + 1 : Nat) : Int) := by unfold wrap64; omega
    have e2 : wrap64 (((s.length - 1 - j : Nat) : Int) - 1) = (s.length : Int) - 1 - ((j + 1 : Nat) : Int) := by unfold wrap64; omega
    rw [ostinatolaw2_StuffSix.l0, ei, B_size, if_pos (by omega), if_pos (by omega), if_pos (by omega), bt_B s _ hi, hx, if_pos rfl, e1, e2]
    exact hih

theorem StuffSix : ostinatolaw2_StuffSix.Pure := by
  intro n wd more hn hwd hmore
  have bw := bounds_u8 hwd
  have bm := bounds_u8 hmore
  refine ⟨50, ?_⟩
  unfold ostinatolaw2_StuffSix.f
  rw [known_tells, Option.bind_some, if_pos rfl, rof_f _ _ hn, Option.bind_some]
  have hl : (ofN n.toNat (wid (wrap64 (Int.tmod wd 65)))).length ≤ 64 := by rw [ofN_length, wid_mod _ (by omega)]; omega
  generalize ofN n.toNat (wid (wrap64 (Int.tmod wd 65))) = l at *
  have h2 := stuff_len l
  have hn := stuffed_none l
  have h5 := stuffed_run l (stuff l).length
  rw [List.take_length] at h5
  rw [stuff_f _ (by omega), Option.bind_some]
  generalize stuff l = s at *
  rw [B_size]
  by_cases hz : (s.length : Int) = 0
  · rw [if_pos hz]
  · have ew : wrap64 ((s.length : Int) - 1) = ((s.length - 1 : Nat) : Int) := by unfold wrap64; omega
    have hi : s.length - 1 < s.length := by omega
    rw [if_neg hz, ew, if_pos (by omega), if_pos (by omega), bt_B s _ hi]
    obtain ⟨r1, r2, r3, r4⟩ := runL_spec s s.length (Nat.le_refl _)
    rw [List.take_length] at r1 r2 r3 r4
    have hx := r2 0 (r4 (by omega))
    rw [Nat.sub_zero, List.getElem?_eq_getElem hi, Option.some.injEq] at hx
    rw [hx]
    have := six_back s (by omega) (by omega) more (by omega) (runL 0 false s).1 (runL 0 false s).2 hn rfl h5 ((runL 0 false s).1 - 0) 50 0 (by omega) rfl (by omega)
    have e0 : (s.length : Int) - 1 - ((0 : Nat) : Int) = ((s.length - 1 : Nat) : Int) := by omega
    rw [e0] at this
    exact this

end Go.Proofs.Ytkclgfjfmlogmaa.Pure
