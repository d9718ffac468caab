/- BusLong (layer 6): of more bits than are kept the latest are told, in order. Conditions: none beyond the types of the arguments. -/
import Derived.Test.YtlfeidakmhniaaaBusWalksH
import Derived.Test.YtlfeidakmhniaaaWWords
import Derived.OpenShut
namespace Go.Proofs.Ytlfeidakmhniaaa.BusL
set_option linter.unusedVariables false
set_option linter.unusedSimpArgs false
open Go Go.RowKit Go.Proofs.Ytlfeidakmhniaaa.Lib Go.Proofs.Ytlfeidakmhniaaa.BusW Go.Proofs.YtlfeidakmhniaaaW.PrintMore Go.Proofs.YtlfeidakmhniaaaW.PrintWords
attribute [local go_sem] max2_int min2_int max_two min_two

/-- The row with one bit more. -/
def moreOf (l : List UInt8) (c : UInt8) : List UInt8 := (if l.length < 8000 then l else cutOf l) ++ [c]
theorem step_more (w0 w : World) (g : Nat) (l : List UInt8) (n : Nat) (t : Bool) (s : ByteArray) (h : BusAt w0 w g l n t) (hl : l.length ≤ 1000000) (hn : n ≤ 1000000) :
    Calls Try.prog 13 #[.pointer (some ⟨g, 0, none⟩), .string s] w fun e w' => e = .returned (.int .u8 ((bitC s t).toNat : Int)) ∧ BusAt w0 w' g (moreOf l (bitC s t)) (n + 1) false := by
  unfold moreOf
  by_cases h8 : l.length < 8000
  · rw [if_pos h8]
    exact step_bus w0 w g l n t s h h8 hn
  · rw [if_neg h8]
    obtain ⟨⟨v, hv⟩, hb⟩ := h
    refine (step_cut _ g v l n t s w hv (by omega) hl hn).mono ?_
    rintro e w' ⟨rfl, ⟨v', h1⟩, h2⟩
    exact ⟨rfl, ⟨v', h1⟩, h2.under hb hv.1 (own_ge hv.2.2)⟩
/-- The bit number i. -/
def bitL (q i : Nat) : UInt8 := if i % q = 0 then 48 else 49
/-- l is what is kept of the first j bits. -/
def Kept (q j : Nat) (l : List UInt8) : Prop := l.length ≤ 8000 ∧ ∃ p, (List.range j).map (bitL q) = p ++ l ∧ (p = [] ∨ 4000 ≤ l.length)
theorem kept_zero (q : Nat) : Kept q 0 [] := ⟨by simp, [], by simp, .inl rfl⟩
theorem kept_more {q j : Nat} {l : List UInt8} (h : Kept q j l) : Kept q (j + 1) (moreOf l (bitL q j)) := by
  obtain ⟨h1, p, h2, h3⟩ := h
  unfold moreOf
  have e : (List.range (j + 1)).map (bitL q) = (List.range j).map (bitL q) ++ [bitL q j] := by rw [List.range_succ]; simp
  by_cases h8 : l.length < 8000
  · rw [if_pos h8]
    refine ⟨by simp; omega, p, by rw [e, h2, List.append_assoc], ?_⟩
    rcases h3 with rfl | h3
    · exact .inl rfl
    · exact .inr (by simp; omega)
  · rw [if_neg h8]
    have hc : (cutOf l).length = 4000 := by unfold cutOf; rw [List.length_drop]; omega
    refine ⟨by simp [hc], p ++ l.take (l.length - 4000), ?_, .inr (by simp [hc])⟩
    rw [e, h2]
    unfold cutOf
    rw [List.append_assoc, List.append_assoc, ← List.append_assoc (List.take _ l), List.take_append_drop]
theorem kept_tail {q j : Nat} {l : List UInt8} (h : Kept q j l) : (tailOf l).length = min j 4000 ∧ ∀ i, i < (tailOf l).length → (tailOf l)[i]? = some (bitL q (j - (tailOf l).length + i)) := by
  obtain ⟨h1, p, h2, h3⟩ := h
  have hl : p.length + l.length = j := by
    have := congrArg List.length h2
    simpa using this.symm
  have e : tailOf l = ((List.range j).map (bitL q)).drop (j - 4000) := by
    unfold tailOf
    rw [h2]
    rcases h3 with rfl | h3
    · simp at hl
      rw [List.nil_append, hl]
    · have : (p ++ l).drop (j - 4000) = l.drop (j - 4000 - p.length) := by rw [List.drop_append, List.drop_of_length_le (l := p) (by omega), List.nil_append]
      rw [this, show j - 4000 - p.length = l.length - 4000 by omega]
  have hlen : (tailOf l).length = min j 4000 := by rw [e, List.length_drop, List.length_map, List.length_range]; omega
  refine ⟨hlen, fun i hi => ?_⟩
  rw [hlen] at hi
  rw [hlen, e, List.getElem?_drop, List.getElem?_map, List.getElem?_range (by omega)]
  simp only [Option.map_some, Option.some.injEq]
  rw [show j - min j 4000 + i = j - 4000 + i by omega]

set_option maxRecDepth 100000 in
set_option maxHeartbeats 3200000 in
theorem long_calls (n m : Int) (w : World) (hn : 0 ≤ n ∧ n ≤ 65535) (hm : 0 ≤ m ∧ m ≤ 255) :
    Calls Try.prog 3 #[.int .u16 n, .int .u8 m] w fun e w' => e = .returned (.bool true) ∧ Below w.heap.size w w' := by
  obtain ⟨hn0, hn1⟩ := hn
  obtain ⟨hm0, hm1⟩ := hm
  have HB := Below.refl w.heap.size w
  obtain ⟨k, hk⟩ : ∃ k : Nat, n % 9000 = (k : Int) := ⟨(n % 9000).toNat, by omega⟩
  obtain ⟨q, hq⟩ : ∃ q : Nat, m % 7 = (q : Int) := ⟨(m % 7).toNat, by omega⟩
  have hk9 : k < 9000 := by omega
  have hq7 : q < 7 := by omega
  have HK := Hd.mk hk9
  have HQ := Hd.mk hq7
  clear hk9 hq7
  go_enter Try.func3, Try.ntmps3
  go_wp2_with (first
    | (go_at_call 11; refine (known_calls _).mono ?_; rintro e w1 ⟨rfl, HB1⟩)
    | (go_at_call 12; refine (new_bus w _ HB1).mono ?_; rintro e w1 ⟨g, rfl, HU⟩; clear HB1))
  have HKK := Hd.mk hk
  clear hk
  go_loopw [7] (fun i wr => ∃ (j : Nat) (l : List UInt8), j ≤ k ∧ i = .int .i64 j ∧ Kept (q + 2) j l ∧ BusAt w wr g l j false) (fun i _ => k - (intOf i).toNat)
  case atStart => exact ⟨0, [], Nat.zero_le _, rfl, kept_zero _, HU⟩
  case round =>
    clear HU
    obtain ⟨j, l, hj, rfl, hl, HU⟩ := hrel
    have HLK := Hd.mk hl
    by_cases hlt : j < k
    · have p0 : 0 ≤ (j : Int) := Int.natCast_nonneg _
      have p1 : (j : Int) < k := by omega
      have p2 : (k : Int) ≤ 9000 := by have := HK.out; omega
      have p3 : 0 ≤ (q : Int) := Int.natCast_nonneg _
      have p4 : (q : Int) ≤ 6 := by have := HQ.out; omega
      have p5 : ((q : Int) + 2 == 0) = false := by rw [beq_eq_false_iff_ne]; omega
      have hll : l.length ≤ 1000000 := by have := hl.1; omega
      have hjj : j ≤ 1000000 := by have := HK.out; omega
      clear hl
      by_cases hz : j % (q + 2) = 0
      · have hb : bitL (q + 2) j = 48 := if_pos hz
        have f1 : bitC ⟨#[48]⟩ false = 48 := by decide +kernel
        have z1 : (j : Int) % ((q : Int) + 2) = 0 := by
          have := congrArg (Nat.cast (R := Int)) hz
          rw [Int.natCast_emod] at this
          exact this
        have HM := Hd.mk (kept_more HLK.out)
        rw [hb] at HM
        clear hb hz
        go_wp2_with (go_at_call 13; refine (step_more _ _ _ _ _ _ _ HU hll hjj).mono ?_; rintro e w2 ⟨rfl, hn0⟩; clear HU; have HU := hn0; clear hn0)
        rw [f1] at HU
        go_roundw
        case rel => exact ⟨j + 1, _, by omega, by go_num, HM.out, HU⟩
        case measure => simp [intOf]; omega
      · have hb : bitL (q + 2) j = 49 := if_neg hz
        have f1 : bitC ⟨#[49]⟩ false = 49 := by decide +kernel
        have z0 : ¬((j : Int) % ((q : Int) + 2) = 0) := fun h => hz (Int.natCast_inj.1 (by rw [Int.natCast_emod]; exact h))
        have z1 : ((j : Int) % ((q : Int) + 2) == 0) = false := beq_eq_false_iff_ne.2 z0
        clear z0
        have HM := Hd.mk (kept_more HLK.out)
        rw [hb] at HM
        clear hb hz
        go_wp2_with (go_at_call 13; refine (step_more _ _ _ _ _ _ _ HU hll hjj).mono ?_; rintro e w2 ⟨rfl, hn0⟩; clear HU; have HU := hn0; clear hn0)
        rw [f1] at HU
        go_roundw
        case rel => exact ⟨j + 1, _, by omega, by go_num, HM.out, HU⟩
        case measure => simp [intOf]; omega
    · obtain rfl : j = k := by omega
      have hll : l.length ≤ 1000000 := by have := hl.1; omega
      obtain ⟨t1, t2⟩ := kept_tail hl
      clear hl
      generalize hT : tailOf l = T at *
      have HT := Hd.mk hT
      clear hT
      have HT2 := Hd.mk t2
      clear t2
      have t3 : min (j : Int) 4000 = (T.length : Int) := by omega
      clear t1
      have hcond : ((T.length : Int) != if 4000 < (j : Int) then 4000 else (j : Int)) = false := by
        rw [bne_eq_false_iff_eq]
        split <;> omega
      have HT3 := Hd.mk t3
      clear t3
      go_wp2_with (first
        | (go_at_call 14; with_reducible refine (trace_any HU (by omega)).mono ?_; rintro e w2 ⟨rfl, hn0⟩; rw [HT.out]; have hn1 := HU.later hn0; clear HU hn0; have HU := hn1; clear hn1)
        | (go_at_call 15; with_reducible refine (len_any HU).mono ?_; rintro e w2 ⟨rfl, rfl⟩))
      all_goals
        have hbl := HU.below
        clear HU
        go_loopw [10] (fun i wr => ∃ i' : Nat, i' ≤ T.length ∧ i = .int .i64 i' ∧ Below w.heap.size w wr) (fun i _ => T.length - (intOf i).toNat)
        case atStart => exact ⟨0, Nat.zero_le _, rfl, hbl⟩
        case round =>
          clear hbl
          obtain ⟨i, hi, rfl, hbl⟩ := hrel
          by_cases hil : i < T.length
          · have hget := HT2.out i hil
            have r0 : 0 ≤ (i : Int) := Int.natCast_nonneg _
            have r1 : (i : Int) < (T.length : Int) := by omega
            have r2 : (T.length : Int) ≤ 4000 := by have := HT3.out; omega
            have r3 : (T.length : Int) ≤ (j : Int) := by have := HT3.out; omega
            have r4 : (j : Int) ≤ 9000 := by have := HK.out; omega
            have r5 : 0 ≤ (q : Int) := Int.natCast_nonneg _
            have r6 : (q : Int) ≤ 6 := by have := HQ.out; omega
            generalize hc : bitL (q + 2) (j - T.length + i) = c at *
            have hidx : (⟨T.toArray⟩ : ByteArray).size = T.length := by show T.toArray.size = T.length; simp
            have hneq : ((c.toNat : Int) == 48) = (((j : Int) - T.length + i) % ((q : Int) + 2) == 0) := by
              have e1 : ((j : Int) - T.length + i) = ((j - T.length + i : Nat) : Int) := by omega
              have e2 : ((q : Int) + 2) = ((q + 2 : Nat) : Int) := by omega
              rw [e1, e2, ← Int.natCast_emod, ← hc]
              unfold bitL
              by_cases hz : (j - T.length + i) % (q + 2) = 0
              · rw [if_pos hz, hz]; rfl
              · rw [if_neg hz]
                have : (((j - T.length + i) % (q + 2) : Nat) : Int) ≠ 0 := by omega
                rw [beq_eq_false_iff_ne.2 this]
                rfl
            clear hc
            have HN := Hd.mk hneq
            clear hneq
            go_wp2_with fail
            refine region_text (by kernel_rfl) (by kernel_rfl) (fun _ _ W => Below w.heap.size w W) hbl.drew ?_
            refine t_pure (.string ⟨T.toArray⟩) (fun _ => rfl) (fun b γ W h => h) (fun b γ W h _ => by go_simp) ?_
            refine t_pure (.int .i64 i) (fun _ => rfl) (fun b γ W h => h) (fun b γ W h _ => by go_simp) ?_
            refine t_pure (.int .u8 (c.toNat : Int)) (fun _ => rfl) (fun b γ W h => h) (fun b γ W h _ => ?_) ?_
            · go_simp
              rw [List.getElem?_eq_some_iff] at hget
              obtain ⟨hg1, hg2⟩ := hget
              show ((T.toArray[i]).toNat : Int) = _
              simp [hg2]
            refine t_pure (.bool ((c.toNat : Int) == 48)) (fun _ => rfl) (fun b γ W h => h) (fun b γ W h _ => by go_simp) ?_
            refine t_pure (.int .i64 j) (fun _ => rfl) (fun b γ W h => h) (fun b γ W h _ => by go_simp) ?_
            refine t_pure (.string ⟨T.toArray⟩) (fun _ => rfl) (fun b γ W h => h) (fun b γ W h _ => by go_simp) ?_
            refine t_pure (.int .i64 T.length) (fun _ => rfl) (fun b γ W h => h) (fun b γ W h _ => by go_simp) ?_
            refine t_pure (.int .i64 ((j : Int) - T.length)) (fun _ => rfl) (fun b γ W h => h) (fun b γ W h _ => by have e1 : IntKind.i64.wrap ((j : Int) - T.length) = (j : Int) - T.length := (by rw [IntKind.wrap_i64]; omega); go_simp) ?_
            refine t_pure (.int .i64 i) (fun _ => rfl) (fun b γ W h => h) (fun b γ W h _ => by go_simp) ?_
            refine t_pure (.int .i64 ((j : Int) - T.length + i)) (fun _ => rfl) (fun b γ W h => h) (fun b γ W h _ => by have e1 : IntKind.i64.wrap ((j : Int) - T.length + i) = (j : Int) - T.length + i := (by rw [IntKind.wrap_i64]; omega); go_simp) ?_
            refine t_pure (.int .u8 m) (fun _ => rfl) (fun b γ W h => h) (fun b γ W h _ => by go_simp) ?_
            refine t_pure (.int .u8 q) (fun _ => rfl) (fun b γ W h => h) (fun b γ W h _ => by go_simp; rw [Int.tmod_eq_emod_of_nonneg hm0]; exact hq) ?_
            refine t_pure (.int .i64 q) (fun _ => rfl) (fun b γ W h => h) (fun b γ W h _ => by have e1 : IntKind.i64.wrap (q : Int) = q := (by rw [IntKind.wrap_i64]; omega); go_simp) ?_
            refine t_pure (.int .i64 ((q : Int) + 2)) (fun _ => rfl) (fun b γ W h => h) (fun b γ W h _ => by have e1 : IntKind.i64.wrap ((q : Int) + 2) = (q : Int) + 2 := (by rw [IntKind.wrap_i64]; omega); go_simp) ?_
            refine t_pure (.int .i64 (((j : Int) - T.length + i) % ((q : Int) + 2))) (fun _ => rfl) (fun b γ W h => h) (fun b γ W h _ => by have e0 : 0 ≤ (j : Int) - T.length + i := (by omega); have e1 : ((q : Int) + 2 = 0) = False := eq_false (by omega); have e2 : ((j : Int) - T.length + i).tmod ((q : Int) + 2) = ((j : Int) - T.length + i) % ((q : Int) + 2) := Int.tmod_eq_emod_of_nonneg e0; go_simp) ?_
            refine t_pure (.bool (((j : Int) - T.length + i) % ((q : Int) + 2) == 0)) (fun _ => rfl) (fun b γ W h => h) (fun b γ W h _ => by go_simp) ?_
            refine t_pure (.bool false) (fun _ => rfl) (fun b γ W h => h) (fun b γ W h _ => by have e1 := HN.out; go_simp) ?_
            refine t_end ?_
            intro bq gq w5 hall hS
            have hS2 : Below w.heap.size w w5 := hS
            clear hS hall
            simp only [Act.put, List.setIfInBounds_toArray, List.set_cons_zero, List.set_cons_succ]
            go_wp2_with fail
            go_roundw
            case rel => exact ⟨i + 1, by omega, by go_num, hS2⟩
            case measure => simp [intOf]; omega
          · obtain rfl : i = T.length := by omega
            go_wp2_with fail
            go_ret
            exact ⟨rfl, hbl⟩
theorem long_walk (a0 a1 : Int) (W : World) (w0 : (Lit.int .u16 a0).wf = true) (w1 : (Lit.int .u8 a1).wf = true) :
    Calls Try.prog 3 #[.int .u16 a0, .int .u8 a1] W fun e w' => e = .returned (.bool true) ∧ Below W.heap.size W w' := by
  have b0 := bounds_u16 w0
  have b1 := bounds_u8 w1
  exact long_calls a0 a1 W (by omega) (by omega)
end Go.Proofs.Ytlfeidakmhniaaa.BusL
