/- BusWins (layer 6): the wire has a 0 as soon as one drives one, wherever that one stands, for every number of nodes and every place. Conditions: none beyond the types of the arguments. -/
import Derived.Test.YtlfeidakmhniaaaBusWalksD
import Derived.OpenShut
namespace Go.Proofs.Ytlfeidakmhniaaa.BusL
set_option linter.unusedVariables false
set_option linter.unusedSimpArgs false
open Go Go.RowKit Go.Proofs.Ytlfeidakmhniaaa.Lib Go.Proofs.Ytlfeidakmhniaaa.BusW Go.Proofs.YtlfeidakmhniaaaW.PrintMore
attribute [local go_sem] max2_int min2_int max_two min_two

/-- So many ones. -/
def ones (k : Nat) : ByteArray := ⟨(List.replicate k 49).toArray⟩
theorem ones_size (k : Nat) : (ones k).size = k := by unfold ones; show (List.replicate k (49 : UInt8)).toArray.size = k; simp
theorem ones_succ (k : Nat) : ones k ++ ⟨#[49]⟩ = ones (k + 1) := by
  apply ByteArray.ext
  rw [ByteArray.data_append]
  unfold ones
  apply Array.ext'
  simp [List.replicate_succ']
theorem bit_ones (k : Nat) (t : Bool) : bitC (ones k) t = if t then 48 else 49 := by
  unfold bitC lowOf ones
  have : (List.replicate k (49 : UInt8)).contains 48 = false := by
    induction k with
    | zero => rfl
    | succ k ih => rw [List.replicate_succ, List.contains_cons, ih]; rfl
  simp only [this]
  cases t <;> rfl
theorem bit_zero (a b : ByteArray) (t : Bool) : bitC (a ++ ⟨#[48]⟩ ++ b) t = if t then 49 else 48 := by
  unfold bitC lowOf
  have : (a ++ ⟨#[48]⟩ ++ b).data.toList.contains 48 = true := by
    rw [ByteArray.data_append, ByteArray.data_append]
    simp
  rw [this]
  cases t <;> rfl

set_option maxRecDepth 100000 in
set_option maxHeartbeats 3200000 in
theorem wins_calls (n at_ : Int) (flip : Bool) (w : World) (hn : 0 ≤ n ∧ n ≤ 255) (ha : 0 ≤ at_ ∧ at_ ≤ 255) :
    Calls Try.prog 4 #[.int .u8 n, .int .u8 at_, .bool flip] w fun e w' => e = .returned (.bool true) ∧ Below w.heap.size w w' := by
  have HB := Below.refl w.heap.size w
  obtain ⟨k, hk⟩ : ∃ k : Nat, k = (n % 20 + 1).toNat := ⟨_, rfl⟩
  have hk1 : 1 ≤ k ∧ k ≤ 20 := by omega
  have hkn : IntKind.i64.wrap (Int.tmod n 20 + 1) = (k : Int) := by
    rw [IntKind.wrap_i64, Int.tmod_eq_emod_of_nonneg hn.1]; omega
  go_enter Try.func4, Try.ntmps4
  go_wp2_with (first
    | (go_at_call 11; refine (known_calls _).mono ?_; rintro e w1 ⟨rfl, HB1⟩)
    | (go_at_call 12; refine (new_bus w _ HB1).mono ?_; rintro e w1 ⟨g, rfl, HU⟩; clear HB1))
  have e20 : n % 20 + 1 = (k : Int) := by omega
  rw [e20]
  obtain ⟨p, hp⟩ : ∃ p : Nat, at_ % (k : Int) = (p : Int) := ⟨(at_ % (k : Int)).toNat, by have := Int.emod_nonneg at_ (show (k : Int) ≠ 0 by omega); omega⟩
  have hpk : p < k := by have := Int.emod_lt_of_pos at_ (show (0 : Int) < (k : Int) by omega); omega
  clear hkn hk
  go_loop [9, 10] (fun s i => ∃ j : Nat, j ≤ k ∧ s = .string (ones j) ∧ i = .int .i64 j) (fun _ i => k - (intOf i).toNat)
  case atStart => exact ⟨0, Nat.zero_le _, rfl, rfl⟩
  case round =>
    obtain ⟨j, hj, rfl, rfl⟩ := hrel
    have hsz := ones_size j
    by_cases hlt : j < k
    · go_wp2_with fail
      refine ⟨⟨j + 1, by omega, by rw [ones_succ], by go_num⟩, ?_⟩
      simp [intOf]
      omega
    · obtain rfl : j = k := by omega
      clear hj hlt
      go_wp2_with fail
      have hk0 : ((j : Int) == 0) = false := beq_eq_false_iff_ne.2 (by omega)
      have hk2 : ((j : Int) = 0) = False := eq_false (by omega)
      have hp2 : Int.tmod at_ (j : Int) = (p : Int) := by rw [Int.tmod_eq_emod_of_nonneg ha.1]; exact hp
      refine region_text (by kernel_rfl) (by kernel_rfl) (fun b _ W => W = w1.drew) rfl ?_
      refine t_pure (.string (ones j)) (fun _ => rfl) (fun b g w h => h) (fun b g w h _ => by subst h; go_simp) ?_
      refine t_pure (.int .u8 at_) (fun _ => rfl) (fun b g w h => h) (fun b g w h _ => by subst h; go_simp) ?_
      refine t_pure (.int .i64 at_) (fun _ => rfl) (fun b g w h => h) (fun b g w h _ => by subst h; go_simp; rw [IntKind.wrap_i64]; omega) ?_
      refine t_pure (.int .i64 j) (fun _ => rfl) (fun b g w h => h) (fun b g w h _ => by subst h; go_simp) ?_
      refine t_pure (.int .i64 p) (fun _ => rfl) (fun b g w h => h) (fun b g w h _ => by subst h; go_simp; omega) ?_
      refine t_pure (.string ((ones j).extract 0 p)) (fun _ => rfl) (fun b g w h => h) (fun b g w h _ => by subst h; go_simp; intro hh; omega) ?_
      refine t_pure (.string ((ones j).extract 0 p ++ ⟨#[48]⟩)) (fun _ => rfl) (fun b g w h => h) (fun b g w h _ => by subst h; go_simp; omega) ?_
      refine t_pure (.string (ones j)) (fun _ => rfl) (fun b g w h => h) (fun b g w h _ => by subst h; go_simp) ?_
      refine t_pure (.int .u8 at_) (fun _ => rfl) (fun b g w h => h) (fun b g w h _ => by subst h; go_simp) ?_
      refine t_pure (.int .i64 at_) (fun _ => rfl) (fun b g w h => h) (fun b g w h _ => by subst h; go_simp; rw [IntKind.wrap_i64]; omega) ?_
      refine t_pure (.int .i64 j) (fun _ => rfl) (fun b g w h => h) (fun b g w h _ => by subst h; go_simp) ?_
      refine t_pure (.int .i64 p) (fun _ => rfl) (fun b g w h => h) (fun b g w h _ => by subst h; go_simp; omega) ?_
      refine t_pure (.int .i64 ((p : Int) + 1)) (fun _ => rfl) (fun b g w h => h) (fun b g w h _ => by subst h; go_simp; rw [IntKind.wrap_i64]; omega) ?_
      refine t_pure (.string ((ones j).extract (p + 1) j)) (fun _ => rfl) (fun b g w h => h) (fun b g w h _ => by subst h; go_simp; intro hh; have := hh (by omega); omega) ?_
      refine t_pure (.string ((ones j).extract 0 p ++ ⟨#[48]⟩ ++ (ones j).extract (p + 1) j)) (fun _ => rfl) (fun b g w h => h) (fun b g w h _ => by subst h; go_simp; omega) ?_
      refine t_pure (.string ((ones j).extract 0 p ++ ⟨#[48]⟩ ++ (ones j).extract (p + 1) j)) (fun _ => rfl) (fun b g w h => h) (fun b g w h _ => by subst h; go_simp) ?_
      refine t_end ?_
      intro bq gq w5 hall hS
      subst hS
      simp only [Act.put, List.setIfInBounds_toArray, List.set_cons_zero, List.set_cons_succ]
      have HU := HU.later (Below.refl _ _).drew
      have f1 : ((bitC (ones j) false).toNat : Int) = 49 := by rw [bit_ones]; rfl
      have f2 : ((bitC (ones j) true).toNat : Int) = 48 := by rw [bit_ones]; rfl
      have f3 : ((bitC ((ones j).extract 0 p ++ ⟨#[48]⟩ ++ (ones j).extract (p + 1) j) false).toNat : Int) = 48 := by rw [bit_zero]; rfl
      have f4 : ((bitC ((ones j).extract 0 p ++ ⟨#[48]⟩ ++ (ones j).extract (p + 1) j) true).toNat : Int) = 49 := by rw [bit_zero]; rfl
      clear hp hp2 hpk hk0 hk2 hk1 hsz
      generalize (ones j).extract 0 p ++ ⟨#[48]⟩ ++ (ones j).extract (p + 1) j = z at *
      generalize ones j = o at *
      cases flip
      all_goals
        go_wp2_with (first
          | (go_at_call 13; refine (step_bus _ _ _ _ _ _ _ HU (by simp) (by simp)).mono ?_; rintro e w2 ⟨rfl, hn0⟩; clear HU; have HU := hn0; clear hn0)
          | (go_at_call 16; refine (flip_bus _ _ _ _ _ _ HU).mono ?_; rintro e w2 ⟨rfl, hn0⟩; clear HU; have HU := hn0; clear hn0)
          | (go_at_call 15; refine (len_bus _ _ _ _ _ _ HU).mono ?_; rintro e w2 ⟨rfl, hn0⟩; clear HU; have HU := hn0; clear hn0))
        go_ret
        exact ⟨rfl, HU.below⟩
theorem wins_walk (a0 a1 : Int) (a2 : Bool) (W : World) (w0 : (Lit.int .u8 a0).wf = true) (w1 : (Lit.int .u8 a1).wf = true) :
    Calls Try.prog 4 #[.int .u8 a0, .int .u8 a1, .bool a2] W fun e w' => e = .returned (.bool true) ∧ Below W.heap.size W w' := by
  have b0 := bounds_u8 w0
  have b1 := bounds_u8 w1
  exact wins_calls a0 a1 a2 W (by omega) (by omega)
end Go.Proofs.Ytlfeidakmhniaaa.BusL
