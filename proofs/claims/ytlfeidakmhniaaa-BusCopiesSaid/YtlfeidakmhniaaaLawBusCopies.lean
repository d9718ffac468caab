/- BusCopies (layer 6): a copy goes its own way, a turned bit that is waited for too, for every row of at most sixty bits. Conditions: none beyond the types of the arguments; longer rows are let pass. -/
import Derived.Test.YtlfeidakmhniaaaBusWalksF
import Derived.Test.YtlfeidakmhniaaaWWords
import Derived.OpenShut
namespace Go.Proofs.Ytlfeidakmhniaaa.BusL
set_option linter.unusedVariables false
set_option linter.unusedSimpArgs false
open Go Go.RowKit Go.Proofs.Ytlfeidakmhniaaa.Lib Go.Proofs.Ytlfeidakmhniaaa.BusW Go.Proofs.YtlfeidakmhniaaaW.PrintMore Go.Proofs.YtlfeidakmhniaaaW.PrintWords
attribute [local go_sem] max2_int min2_int max_two min_two

set_option maxRecDepth 100000 in
set_option maxHeartbeats 3200000 in
theorem copies_calls (A0 : Option Addr) (cap : Nat) (l0 : List Bool) (flip : Bool) (w : World) (hr : Kd.C Kd.bool w A0 l0.length l0) :
    Calls Try.prog 10 #[.slice A0 l0.length cap, .bool flip] w fun e w' => e = .returned (.bool true) ∧ Below w.heap.size w w' := by
  have HB := Below.refl w.heap.size w
  have HR := Hd.mk hr
  clear hr
  by_cases h60 : l0.length > 60
  · have h1 : (60 < (l0.length : Int)) = True := eq_true (by omega)
    have h2 : decide (60 < (l0.length : Int)) = true := decide_eq_true (by omega)
    go_enter Try.func10, Try.ntmps10
    go_wp2_with (go_at_call 11; refine (known_calls _).mono ?_; rintro e w1 ⟨rfl, HB1⟩)
    go_ret
    exact ⟨rfl, HB1⟩
  · have h1 : (60 < (l0.length : Int)) = False := eq_false (by omega)
    have h2 : decide (60 < (l0.length : Int)) = false := decide_eq_false (by omega)
    have hlen : l0.length ≤ 60 := by omega
    have HL := Hd.mk hlen
    clear h60 hlen
    go_enter Try.func10, Try.ntmps10
    go_wp2_with (first
      | (go_at_call 11; refine (known_calls _).mono ?_; rintro e w1 ⟨rfl, HB1⟩)
      | (go_at_call 12; refine (new_bus w _ HB1).mono ?_; rintro e w1 ⟨g, rfl, HU⟩; clear HB1))
    clear h1 h2
    go_loopw [6] (fun i wr => ∃ (j : Nat) (l : List UInt8), j ≤ l0.length ∧ i = .int .i64 j ∧ l.length = j ∧ BusAt w wr g l j false) (fun i _ => l0.length - (intOf i).toNat)
    case atStart => exact ⟨0, [], Nat.zero_le _, rfl, rfl, HU⟩
    case round =>
      clear HU
      obtain ⟨j, l, hj, rfl, hl, HU⟩ := hrel
      by_cases hlt : j < l0.length
      · have p1 : 0 ≤ (j : Int) := Int.natCast_nonneg _
        have q1 : (j : Int) < (l0.length : Int) := by omega
        obtain ⟨ad, rfl, hx⟩ := Kd.at_bool HR.out (j : Int) p1 q1
        have hx := (HU.below.cell (World.block_lt_of_cell? w _ hx)).trans hx
        have hll : l.length < 8000 := by have := HL.out; omega
        have hjj : j ≤ 1000000 := by have := HL.out; omega
        simp only [Int.toNat_natCast] at hx
        generalize rdOf false l0 (j : Int) = bt at *
        cases bt
        all_goals
          go_wp2_with (go_at_call 13; refine (step_bus _ _ _ _ _ _ _ HU hll hjj).mono ?_; rintro e w2 ⟨rfl, hn0⟩; clear HU; have HU := hn0; clear hn0)
          go_roundw
          case rel => exact ⟨j + 1, _, by omega, by go_num, by simp [hl], HU⟩
          case measure => simp [intOf]; omega
      · obtain rfl : j = l0.length := by omega
        have hll : l.length < 7000 := by have := HL.out; omega
        have hjj : l0.length ≤ 10000 := by have := HL.out; omega
        have f1 : ((bitC ⟨#[49]⟩ false).toNat : Int) = 49 := by decide +kernel
        have f2 : ((bitC ⟨#[49]⟩ true).toNat : Int) = 48 := by decide +kernel
        clear hl hj
        cases flip
        all_goals
          go_wp2_with (first
            | (go_at_call 16; with_reducible refine (flip_bus _ _ _ _ _ _ HU).mono ?_; rintro e w2 ⟨rfl, hn0⟩; clear HU; have HU := hn0; clear hn0)
            | (go_at_call 27; with_reducible refine (copy_bus HU (by omega)).mono ?_; rintro e w2 ⟨c, rfl, HT⟩; clear HU)
            | (go_at_call 14; with_reducible refine (trace_any HT.fst (by omega)).mono ?_; rintro e w2 ⟨rfl, hn0⟩; have hn1 := HT.later hn0; clear HT hn0; have HT := hn1; clear hn1)
            | (go_at_call 14; with_reducible refine (trace_any HG (by simp; omega)).mono ?_; rintro e w2 ⟨rfl, hn0⟩; have hn1 := HG.later hn0; have hn2 := HC.later hn0; clear HG HC hn0; have HG := hn1; have HC := hn2; clear hn1 hn2)
            | (go_at_call 14; with_reducible refine (trace_any HC (by simp; omega)).mono ?_; rintro e w2 ⟨rfl, hn0⟩; have hn1 := HG.later hn0; have hn2 := HC.later hn0; clear HG HC hn0; have HG := hn1; have HC := hn2; clear hn1 hn2)
            | (go_at_call 15; with_reducible refine (len_any HT.fst).mono ?_; rintro e w2 ⟨rfl, rfl⟩)
            | (go_at_call 15; with_reducible refine (len_any HT.snd).mono ?_; rintro e w2 ⟨rfl, rfl⟩)
            | (go_at_call 13; with_reducible refine (step_two _ HT (by omega) (by omega)).mono ?_; rintro e w2 ⟨rfl, hn0⟩; clear HT; have HT := hn0; clear hn0)
            | (go_at_call 13; with_reducible refine (step_one _ HT (by omega) (by omega)).mono ?_; rintro e w2 ⟨rfl, HG, HC⟩; clear HT))
        all_goals go_ret
        all_goals exact ⟨rfl, HG.below⟩
theorem copies_walk (A0 : Option Addr) (n c : Nat) (flip : Bool) (w : World) (h : ∃ l : List Bool, l.length = n ∧ n ≤ c ∧ Kd.C Kd.bool w A0 n l) :
    Calls Try.prog 10 #[.slice A0 n c, .bool flip] w fun e w' => e = .returned (.bool true) ∧ Below w.heap.size w w' := by
  obtain ⟨l, rfl, hc, hk⟩ := h
  exact copies_calls A0 c l flip w hk
end Go.Proofs.Ytlfeidakmhniaaa.BusL
