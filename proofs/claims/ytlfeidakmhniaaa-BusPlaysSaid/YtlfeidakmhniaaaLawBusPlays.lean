/- BusPlays (layer 6): every row of levels and turns: each bit, the trace behind it, how many there were, for at most sixty bits of at most twenty levels. Conditions: none beyond the types of the arguments; longer rows are let pass. -/
import Derived.Test.YtlfeidakmhniaaaBusWalksG
import Derived.Test.YtlfeidakmhniaaaWWords
import Derived.OpenShut
namespace Go.Proofs.Ytlfeidakmhniaaa.BusL
set_option linter.unusedVariables false
set_option linter.unusedSimpArgs false
open Go Go.RowKit Go.Proofs.Ytlfeidakmhniaaa.Lib Go.Proofs.Ytlfeidakmhniaaa.BusW Go.Proofs.YtlfeidakmhniaaaW.PrintMore Go.Proofs.YtlfeidakmhniaaaW.PrintWords
attribute [local go_sem] max2_int min2_int max_two min_two

theorem byte_48 (x : UInt8) : ((x.toNat : Int) != 48) = !(x == 48) := by
  by_cases h : x = 48
  · subst h; rfl
  · have h2 : (x.toNat : Int) ≠ 48 := fun e => h (UInt8.toNat.inj (by have : x.toNat = 48 := (by omega); exact this))
    rw [bne_iff_ne.2 h2, beq_eq_false_iff_ne.2 h]; rfl
theorem cat_byte (l : List UInt8) (x : UInt8) : (⟨l.toArray⟩ : ByteArray) ++ ⟨#[x]⟩ = ⟨(l ++ [x]).toArray⟩ := by
  apply ByteArray.ext
  rw [ByteArray.data_append]
  simp
theorem tail_short (l : List UInt8) (h : l.length ≤ 4000) : tailOf l = l := by
  unfold tailOf
  rw [show l.length - 4000 = 0 by omega, List.drop_zero]

set_option maxRecDepth 100000 in
set_option maxHeartbeats 3200000 in
theorem plays_calls (A0 A1 : Option Addr) (cap0 cap1 : Nat) (ls : List ByteArray) (fs : List Bool) (w : World) (hr0 : Kd.C Kd.string w A0 ls.length ls) (hr1 : Kd.C Kd.bool w A1 fs.length fs) :
    Calls Try.prog 9 #[.slice A0 ls.length cap0, .slice A1 fs.length cap1] w fun e w' => e = .returned (.bool true) ∧ Below w.heap.size w w' := by
  have HB := Below.refl w.heap.size w
  have HR0 := Hd.mk hr0
  have HR1 := Hd.mk hr1
  clear hr0 hr1
  by_cases hlong : ls.length > 60 ∨ fs.length < ls.length
  · by_cases h60 : ls.length > 60
    · have h1 : (60 < (ls.length : Int)) = True := eq_true (by omega)
      have h2 : decide (60 < (ls.length : Int)) = true := decide_eq_true (by omega)
      clear hlong
      go_enter Try.func9, Try.ntmps9
      go_wp2_with (go_at_call 11; refine (known_calls _).mono ?_; rintro e w1 ⟨rfl, HB1⟩)
      go_ret
      exact ⟨rfl, HB1⟩
    · have h1 : (60 < (ls.length : Int)) = False := eq_false (by omega)
      have h2 : decide (60 < (ls.length : Int)) = false := decide_eq_false (by omega)
      have h3 : ((fs.length : Int) < (ls.length : Int)) = True := eq_true (by omega)
      have h4 : decide ((fs.length : Int) < (ls.length : Int)) = true := decide_eq_true (by omega)
      have h5 : (fs.length < ls.length) = True := eq_true (by omega)
      clear hlong
      go_enter Try.func9, Try.ntmps9
      go_wp2_with (go_at_call 11; refine (known_calls _).mono ?_; rintro e w1 ⟨rfl, HB1⟩)
      go_ret
      exact ⟨rfl, HB1⟩
  · have h1 : (60 < (ls.length : Int)) = False := eq_false (by omega)
    have h2 : decide (60 < (ls.length : Int)) = false := decide_eq_false (by omega)
    have h3 : ((fs.length : Int) < (ls.length : Int)) = False := eq_false (by omega)
    have h4 : decide ((fs.length : Int) < (ls.length : Int)) = false := decide_eq_false (by omega)
    have h5 : (fs.length < ls.length) = False := eq_false (by omega)
    have HL : Hd (ls.length ≤ 60 ∧ ls.length ≤ fs.length) := ⟨by omega⟩
    clear hlong
    go_enter Try.func9, Try.ntmps9
    go_wp2_with (first
      | (go_at_call 11; refine (known_calls _).mono ?_; rintro e w1 ⟨rfl, HB1⟩)
      | (go_at_call 12; refine (new_bus w _ HB1).mono ?_; rintro e w1 ⟨g, rfl, HU⟩; clear HB1))
    clear h1 h2 h3 h4 h5
    go_loopw [6, 7] (fun t i wr => ∃ (j : Nat) (l : List UInt8), j ≤ ls.length ∧ i = .int .i64 j ∧ t = .string ⟨l.toArray⟩ ∧ l.length = j ∧ BusAt w wr g l j false) (fun _ i _ => ls.length - (intOf i).toNat)
    case atStart => exact ⟨0, [], Nat.zero_le _, rfl, rfl, rfl, HU⟩
    case round =>
      clear HU
      obtain ⟨j, l, hj, rfl, rfl, hl, HU⟩ := hrel
      by_cases hlt : j < ls.length
      · have p1 : 0 ≤ (j : Int) := Int.natCast_nonneg _
        have q1 : (j : Int) < (ls.length : Int) := by omega
        have q2 : (j : Int) < (fs.length : Int) := by have := HL.out.2; omega
        obtain ⟨ad, rfl, hx⟩ := Kd.at_string HR0.out (j : Int) p1 q1
        obtain ⟨bd, rfl, hy⟩ := Kd.at_bool HR1.out (j : Int) p1 q2
        simp only [Int.toNat_natCast] at hx hy
        have HX : ∀ W, Below w.heap.size w W → W.cell? (ad.add j) = some (.string (rdOf ByteArray.empty ls (j : Int))) := fun W hb => (hb.cell (World.block_lt_of_cell? w _ hx)).trans hx
        have hx := HX _ HU.below
        have hy := (HU.below.cell (World.block_lt_of_cell? w _ hy)).trans hy
        generalize rdOf ByteArray.empty ls (j : Int) = s at *
        have HXH := Hd.mk HX
        clear HX
        generalize rdOf false fs (j : Int) = fl at *
        by_cases h20 : s.size > 20
        · have e1 : (20 < (s.size : Int)) = True := eq_true (by omega)
          have e2 : decide (20 < (s.size : Int)) = true := decide_eq_true (by omega)
          go_wp2_with fail
          go_ret
          exact ⟨rfl, HU.below⟩
        · have e1 : (20 < (s.size : Int)) = False := eq_false (by omega)
          have e2 : decide (20 < (s.size : Int)) = false := decide_eq_false (by omega)
          have HS20 : Hd (s.size ≤ 20) := ⟨by omega⟩
          go_wp2_with fail
          clear e1 e2 h20
          go_loop [8, 9] (fun o i => ∃ k : Nat, k ≤ s.size ∧ i = .int .i64 k ∧ o = .bool (!(s.data.toList.take k).contains 48)) (fun _ i => s.size - (intOf i).toNat)
          case atStart => exact ⟨0, Nat.zero_le _, rfl, rfl⟩
          case round =>
            obtain ⟨k, hk, rfl, rfl⟩ := hrel
            by_cases hks : k < s.size
            · have p2 : 0 ≤ (k : Int) := Int.natCast_nonneg _
              have hkl : k < s.data.toList.length := by rw [Array.length_toList]; exact hks
              have htk : (s.data.toList.take (k + 1)).contains 48 = ((s.data.toList.take k).contains 48 || s.data.toList[k] == 48) := by
                rw [List.take_add_one, List.getElem?_eq_getElem hkl]
                simp only [Option.toList_some]
                rw [List.contains_eq_any_beq, List.contains_eq_any_beq, List.any_append]
                simp [Bool.beq_comm]
              generalize (s.data.toList.take k).contains 48 = d at *
              have hst : wrap64 ((k : Int) + 1) = ((k + 1 : Nat) : Int) := by have := HS20.out; unfold wrap64; omega
              have HST := Hd.mk hst
              have HTK := Hd.mk htk
              clear hst htk
              cases d
              · go_wp2_with fail
                refine ⟨⟨k + 1, by omega, by rw [HST.out], ?_⟩, ?_⟩
                · rw [HTK.out, Bool.false_or, ← byte_48]
                  rfl
                · rw [HST.out]; simp [intOf]; omega
              · go_wp2_with fail
                refine ⟨⟨k + 1, by omega, by rw [HST.out], ?_⟩, ?_⟩
                · rw [HTK.out, Bool.true_or]; rfl
                · rw [HST.out]; simp [intOf]; omega
            · obtain rfl : k = s.size := by omega
              have hall : s.data.toList.take s.size = s.data.toList := List.take_of_length_le (by rw [Array.length_toList]; exact Nat.le_refl _)
              rw [hall]
              have hbit := bit_val s fl _ rfl
              clear hall hk hks
              generalize s.data.toList.contains 48 = d at *
              have hl4 : l.length ≤ 100 := by have := HL.out.1; omega
              have HL4 := Hd.mk hl4
              have HLL := Hd.mk hl
              have ht : tailOf l = l := tail_short l (by omega)
              have hj4 : j ≤ 1000 := by omega
              have HJ4 := Hd.mk hj4
              have hj2 : (j : Int) ≤ 1000 := by omega
              have hne : (((j + 1 : Nat) : Int) != (j : Int) + 1) = false := by simp
              clear hl4 hj4 hl
              cases d
              · cases fl
                · have hb : bitC s false = 49 := hbit
                  have ht2 : tailOf (l ++ [49]) = l ++ [49] := tail_short _ (by simp; have := HL4.out; omega)
                  have hcat := cat_byte l 49
                  have hle : (9223372036854775807 < l.length + 1) = False := eq_false (by have := HL4.out; omega)
                  clear hbit
                  go_wp2_with (first
                    | (go_at_call 27; with_reducible refine (copy_copied HU (by have := HL4.out; omega)).mono ?_; rintro e w2 ⟨c, rfl, HT⟩; clear HU hx; have hx := HXH.out _ HT.below)
                    | (go_at_call 13; with_reducible refine (step_copied _ HT (by have := HL4.out; omega) (by have := HJ4.out; omega)).mono ?_; rintro e w2 ⟨rfl, HG⟩; rw [hb] at HG; rw [hb]; clear HT hx; have hx := HXH.out _ HG.below)
                    | (go_at_call 13; with_reducible refine (step_apart _ HG (by have := HL4.out; omega) (by have := HJ4.out; omega)).mono ?_; rintro e w2 ⟨rfl, HE⟩; rw [hb]; clear HG hx)
                    | (go_at_call 15; with_reducible refine (len_any HG.fst).mono ?_; rintro e w2 ⟨rfl, rfl⟩)
                    | (go_at_call 15; with_reducible refine (len_any HG.snd).mono ?_; rintro e w2 ⟨rfl, rfl⟩)
                    | (go_at_call 14; with_reducible refine (trace_any HG.snd (by have := HL4.out; omega)).mono ?_; rintro e w2 ⟨rfl, hn0⟩; rw [ht]; have hn1 := HG.later hn0; clear HG hn0 hx; have HG := hn1; clear hn1; have hx := HXH.out _ HG.below)
                    | (go_at_call 14; with_reducible refine (trace_any HG.fst (by have := HL4.out; simp; omega)).mono ?_; rintro e w2 ⟨rfl, hn0⟩; rw [ht2]; have hn1 := HG.later hn0; clear HG hn0 hx; have HG := hn1; clear hn1; have hx := HXH.out _ HG.below)
                    | (with_reducible refine conv_text rfl (.tmp 89) 36 9 5 rfl Try.underlying36 Try.underlying5 Try.underlying9 _ 1 1 5 [.int .u8 49] [49] rfl (Blk.new _ _ _) rfl rfl ?_; have hn1 := HG.later ((Below.refl _ _).alloc (Nat.le_refl _) (.cells #[.int .u8 49] 5)); clear HG hx; have HG := hn1; clear hn1; have hx := HXH.out _ HG.below))
                  go_roundw
                  case rel => exact ⟨j + 1, _, by omega, by go_num, rfl, by simp [HLL.out], HE⟩
                  case measure => simp [intOf]; omega
                · have hb : bitC s true = 48 := hbit
                  have ht2 : tailOf (l ++ [48]) = l ++ [48] := tail_short _ (by simp; have := HL4.out; omega)
                  have hcat := cat_byte l 48
                  have hle : (9223372036854775807 < l.length + 1) = False := eq_false (by have := HL4.out; omega)
                  clear hbit
                  go_wp2_with (first
                    | (go_at_call 16; with_reducible refine (flip_bus _ _ _ _ _ _ HU).mono ?_; rintro e w2 ⟨rfl, hn0⟩; clear HU hx hy; have HU := hn0; have hx := HXH.out _ HU.below; clear hn0)
                    | (go_at_call 27; with_reducible refine (copy_copied HU (by have := HL4.out; omega)).mono ?_; rintro e w2 ⟨c, rfl, HT⟩; clear HU hx; have hx := HXH.out _ HT.below)
                    | (go_at_call 13; with_reducible refine (step_copied _ HT (by have := HL4.out; omega) (by have := HJ4.out; omega)).mono ?_; rintro e w2 ⟨rfl, HG⟩; rw [hb] at HG; rw [hb]; clear HT hx; have hx := HXH.out _ HG.below)
                    | (go_at_call 13; with_reducible refine (step_apart _ HG (by have := HL4.out; omega) (by have := HJ4.out; omega)).mono ?_; rintro e w2 ⟨rfl, HE⟩; rw [hb]; clear HG hx)
                    | (go_at_call 15; with_reducible refine (len_any HG.fst).mono ?_; rintro e w2 ⟨rfl, rfl⟩)
                    | (go_at_call 15; with_reducible refine (len_any HG.snd).mono ?_; rintro e w2 ⟨rfl, rfl⟩)
                    | (go_at_call 14; with_reducible refine (trace_any HG.snd (by have := HL4.out; omega)).mono ?_; rintro e w2 ⟨rfl, hn0⟩; rw [ht]; have hn1 := HG.later hn0; clear HG hn0 hx; have HG := hn1; clear hn1; have hx := HXH.out _ HG.below)
                    | (go_at_call 14; with_reducible refine (trace_any HG.fst (by have := HL4.out; simp; omega)).mono ?_; rintro e w2 ⟨rfl, hn0⟩; rw [ht2]; have hn1 := HG.later hn0; clear HG hn0 hx; have HG := hn1; clear hn1; have hx := HXH.out _ HG.below)
                    | (with_reducible refine conv_text rfl (.tmp 89) 36 9 5 rfl Try.underlying36 Try.underlying5 Try.underlying9 _ 1 1 5 [.int .u8 48] [48] rfl (Blk.new _ _ _) rfl rfl ?_; have hn1 := HG.later ((Below.refl _ _).alloc (Nat.le_refl _) (.cells #[.int .u8 48] 5)); clear HG hx; have HG := hn1; clear hn1; have hx := HXH.out _ HG.below))
                  go_roundw
                  case rel => exact ⟨j + 1, _, by omega, by go_num, rfl, by simp [HLL.out], HE⟩
                  case measure => simp [intOf]; omega
              · cases fl
                · have hb : bitC s false = 48 := hbit
                  have ht2 : tailOf (l ++ [48]) = l ++ [48] := tail_short _ (by simp; have := HL4.out; omega)
                  have hcat := cat_byte l 48
                  have hle : (9223372036854775807 < l.length + 1) = False := eq_false (by have := HL4.out; omega)
                  clear hbit
                  go_wp2_with (first
                    | (go_at_call 27; with_reducible refine (copy_copied HU (by have := HL4.out; omega)).mono ?_; rintro e w2 ⟨c, rfl, HT⟩; clear HU hx; have hx := HXH.out _ HT.below)
                    | (go_at_call 13; with_reducible refine (step_copied _ HT (by have := HL4.out; omega) (by have := HJ4.out; omega)).mono ?_; rintro e w2 ⟨rfl, HG⟩; rw [hb] at HG; rw [hb]; clear HT hx; have hx := HXH.out _ HG.below)
                    | (go_at_call 13; with_reducible refine (step_apart _ HG (by have := HL4.out; omega) (by have := HJ4.out; omega)).mono ?_; rintro e w2 ⟨rfl, HE⟩; rw [hb]; clear HG hx)
                    | (go_at_call 15; with_reducible refine (len_any HG.fst).mono ?_; rintro e w2 ⟨rfl, rfl⟩)
                    | (go_at_call 15; with_reducible refine (len_any HG.snd).mono ?_; rintro e w2 ⟨rfl, rfl⟩)
                    | (go_at_call 14; with_reducible refine (trace_any HG.snd (by have := HL4.out; omega)).mono ?_; rintro e w2 ⟨rfl, hn0⟩; rw [ht]; have hn1 := HG.later hn0; clear HG hn0 hx; have HG := hn1; clear hn1; have hx := HXH.out _ HG.below)
                    | (go_at_call 14; with_reducible refine (trace_any HG.fst (by have := HL4.out; simp; omega)).mono ?_; rintro e w2 ⟨rfl, hn0⟩; rw [ht2]; have hn1 := HG.later hn0; clear HG hn0 hx; have HG := hn1; clear hn1; have hx := HXH.out _ HG.below)
                    | (with_reducible refine conv_text rfl (.tmp 89) 36 9 5 rfl Try.underlying36 Try.underlying5 Try.underlying9 _ 1 1 5 [.int .u8 48] [48] rfl (Blk.new _ _ _) rfl rfl ?_; have hn1 := HG.later ((Below.refl _ _).alloc (Nat.le_refl _) (.cells #[.int .u8 48] 5)); clear HG hx; have HG := hn1; clear hn1; have hx := HXH.out _ HG.below))
                  go_roundw
                  case rel => exact ⟨j + 1, _, by omega, by go_num, rfl, by simp [HLL.out], HE⟩
                  case measure => simp [intOf]; omega
                · have hb : bitC s true = 49 := hbit
                  have ht2 : tailOf (l ++ [49]) = l ++ [49] := tail_short _ (by simp; have := HL4.out; omega)
                  have hcat := cat_byte l 49
                  have hle : (9223372036854775807 < l.length + 1) = False := eq_false (by have := HL4.out; omega)
                  clear hbit
                  go_wp2_with (first
                    | (go_at_call 16; with_reducible refine (flip_bus _ _ _ _ _ _ HU).mono ?_; rintro e w2 ⟨rfl, hn0⟩; clear HU hx hy; have HU := hn0; have hx := HXH.out _ HU.below; clear hn0)
                    | (go_at_call 27; with_reducible refine (copy_copied HU (by have := HL4.out; omega)).mono ?_; rintro e w2 ⟨c, rfl, HT⟩; clear HU hx; have hx := HXH.out _ HT.below)
                    | (go_at_call 13; with_reducible refine (step_copied _ HT (by have := HL4.out; omega) (by have := HJ4.out; omega)).mono ?_; rintro e w2 ⟨rfl, HG⟩; rw [hb] at HG; rw [hb]; clear HT hx; have hx := HXH.out _ HG.below)
                    | (go_at_call 13; with_reducible refine (step_apart _ HG (by have := HL4.out; omega) (by have := HJ4.out; omega)).mono ?_; rintro e w2 ⟨rfl, HE⟩; rw [hb]; clear HG hx)
                    | (go_at_call 15; with_reducible refine (len_any HG.fst).mono ?_; rintro e w2 ⟨rfl, rfl⟩)
                    | (go_at_call 15; with_reducible refine (len_any HG.snd).mono ?_; rintro e w2 ⟨rfl, rfl⟩)
                    | (go_at_call 14; with_reducible refine (trace_any HG.snd (by have := HL4.out; omega)).mono ?_; rintro e w2 ⟨rfl, hn0⟩; rw [ht]; have hn1 := HG.later hn0; clear HG hn0 hx; have HG := hn1; clear hn1; have hx := HXH.out _ HG.below)
                    | (go_at_call 14; with_reducible refine (trace_any HG.fst (by have := HL4.out; simp; omega)).mono ?_; rintro e w2 ⟨rfl, hn0⟩; rw [ht2]; have hn1 := HG.later hn0; clear HG hn0 hx; have HG := hn1; clear hn1; have hx := HXH.out _ HG.below)
                    | (with_reducible refine conv_text rfl (.tmp 89) 36 9 5 rfl Try.underlying36 Try.underlying5 Try.underlying9 _ 1 1 5 [.int .u8 49] [49] rfl (Blk.new _ _ _) rfl rfl ?_; have hn1 := HG.later ((Below.refl _ _).alloc (Nat.le_refl _) (.cells #[.int .u8 49] 5)); clear HG hx; have HG := hn1; clear hn1; have hx := HXH.out _ HG.below))
                  go_roundw
                  case rel => exact ⟨j + 1, _, by omega, by go_num, rfl, by simp [HLL.out], HE⟩
                  case measure => simp [intOf]; omega
      · obtain rfl : j = ls.length := by omega
        go_wp2_with fail
        go_ret
        exact ⟨rfl, HU.below⟩
theorem plays_walk (A0 : Option Addr) (n c : Nat) (A1 : Option Addr) (n1 c1 : Nat) (w : World) (h : ∃ l : List ByteArray, l.length = n ∧ n ≤ c ∧ Kd.C Kd.string w A0 n l) (h1 : ∃ l : List Bool, l.length = n1 ∧ n1 ≤ c1 ∧ Kd.C Kd.bool w A1 n1 l) :
    Calls Try.prog 9 #[.slice A0 n c, .slice A1 n1 c1] w fun e w' => e = .returned (.bool true) ∧ Below w.heap.size w w' := by
  obtain ⟨l, rfl, hc, hk⟩ := h
  obtain ⟨l1, rfl, hc1, hk1⟩ := h1
  exact plays_calls A0 A1 c c1 l l1 w hk hk1
end Go.Proofs.Ytlfeidakmhniaaa.BusL
