/- WireSame (layer 8): nodes that send nothing hear the same. Conditions: none beyond the types of the arguments. -/
import Derived.Test.YtpkpnaedacefaaaWireKnown
import Derived.Test.YtpkpnaedacefaaaWireArgs
import Derived.Test.YtpkpnaedacefaaaWireSm
namespace Go.Proofs.Ytpkpnaedacefaaa.WireL
set_option linter.unusedVariables false
set_option linter.unusedSimpArgs false
open Go Go.RowKit Go.Proofs.Ytpkpnaedacefaaa.Lib Go.Proofs.Ytpkpnaedacefaaa.Bits Go.Proofs.Ytpkpnaedacefaaa.BitsW Go.Proofs.Ytpkpnaedacefaaa.StuffW Go.Proofs.Ytpkpnaedacefaaa.Frame Go.Proofs.Ytpkpnaedacefaaa.FrameW Go.Proofs.Ytpkpnaedacefaaa.Code Go.Proofs.Ytpkpnaedacefaaa.CodeW Go.Proofs.Ytpkpnaedacefaaa.Mac Go.Proofs.Ytpkpnaedacefaaa.MacW Go.Proofs.Ytpkpnaedacefaaa.MacL Go.Proofs.Ytpkpnaedacefaaa.WireN Go.Proofs.Ytpkpnaedacefaaa.WireW Go.Proofs.Ytpkpnaedacefaaa.WireP Go.Proofs.Ytpkpnaedacefaaa.PrintMore
attribute [local go_sem] max2_int min2_int max_two min_two
attribute [local go_sem high] eqA24
/-- Three of four nodes are alike. -/
structure S4 (c : Gc) (i : Nat) : Prop where
  n : c.n = 4
  bn : c.bn = i
  m1 : c.ms 1 = c.ms 2
  m2 : c.ms 2 = c.ms 3
  h2 : c.hs 2 = c.hs 3
theorem S4.new : S4 (Gc.new 4) 0 := ⟨rfl, rfl, rfl, rfl, rfl⟩
theorem S4.ask {c : Gc} {i : Nat} (h : S4 c i) (f : Fm) : S4 (c.ask 0 f) i :=
  ⟨h.n, h.bn, h.m1, h.m2, h.h2⟩
theorem S4.step {c : Gc} {i : Nat} (h : S4 c i) (b : Bool) : S4 (c.step b) (i + 1) := by
  have hn := h.n
  obtain ⟨q1, q2, _, _⟩ := step_of (c := c) (flip := b) rfl (ms' := fun i => ((c.ms i).sample (allD c.ms c.n != (c.t || b))).1) (E := fun i => ((c.ms i).sample (allD c.ms c.n != (c.t || b))).2) (fun i _ => rfl)
  refine ⟨hn, by show c.bn + 1 = _; rw [h.bn], ?_, ?_, ?_⟩
  · rw [q1 1 (by omega), q1 2 (by omega), h.m1]
  · rw [q1 2 (by omega), q1 3 (by omega), h.m2]
  · rw [q2 2 (by omega), q2 3 (by omega), h.m2, h.h2]
set_option maxRecDepth 100000 in
set_option maxHeartbeats 6400000 in
theorem same_walk (A : Option Addr) (n cap : Nat) (A2 : Option Addr) (n2 cap2 : Nat) (w : World) (hS : ∃ S, Frs w A n S) (hS2 : ∃ S, Bys w A2 n2 S) : Calls Try.prog 4 #[.slice A n cap, .slice A2 n2 cap2] w fun e w' => e = .returned (.bool true) ∧ Below w.heap.size w w' := by
  obtain ⟨S, hS⟩ := hS
  obtain ⟨T, hT⟩ := hS2
  have HS := hid hS
  have HT := hid hT
  clear hS hT
  go_enter Try.func4, Try.ntmps4
  go_wp2_with fail
  with_reducible refine (known_calls _).mono ?_
  rintro y w1 ⟨rfl, hb⟩
  have HB := hid hb
  clear hb
  by_cases h3 : 3 < n
  · have u0 : (3 < (n : Int)) = True := eq_true (by omega)
    have u1 : decide (3 < (n : Int)) = true := decide_eq_true (by omega)
    have u2 : (3 < n) = True := eq_true h3
    clear h3
    go_wp2_with fail
    go_ret
    exact ⟨rfl, HB.out⟩
  · have u0 : (3 < (n : Int)) = False := eq_false (by omega)
    have u1 : decide (3 < (n : Int)) = false := decide_eq_false (by omega)
    have u2 : (3 < n) = False := eq_false h3
    by_cases h4 : n2 < n
    · have v0 : ((n2 : Int) < (n : Int)) = True := eq_true (by omega)
      have v1 : decide ((n2 : Int) < (n : Int)) = true := decide_eq_true (by omega)
      have v2 : (n2 < n) = True := eq_true h4
      clear h3 h4
      go_wp2_with fail
      go_ret
      exact ⟨rfl, HB.out⟩
    · have v0 : ((n2 : Int) < (n : Int)) = False := eq_false (by omega)
      have v1 : decide ((n2 : Int) < (n : Int)) = false := decide_eq_false (by omega)
      have v2 : (n2 < n) = False := eq_false h4
      have HN3 := hid (show n ≤ 3 by omega)
      have HN4 := hid (show n ≤ n2 by omega)
      clear h3 h4
      go_wp2_with fail
      with_reducible refine (wb_new (ps := []) 4 HB.out (fun x hx => absurd hx List.not_mem_nil)).mono ?_
      rintro y w2 ⟨g, rfl, h2⟩
      have H2 := hid (show WB w w2 w1.heap.size g [] (Gc.new 4) from h2)
      generalize w1.heap.size = B at H2
      clear h2 u0 u1 u2 v0 v1 v2
      go_wp2_with fail
      go_loopw [6] (fun i wr => ∃ (j : Nat) (c : Gc), j ≤ n ∧ i = .int .i64 j ∧ WB w wr B g [] c ∧ S4 c (250 * j)) (fun i _ => n - (intOf i).toNat)
      case atStart => exact ⟨0, _, Nat.zero_le _, rfl, H2.out, S4.new⟩
      case round =>
        clear H2
        obtain ⟨j, c, hj, rfl, hb, ho⟩ := hrel
        have H6 := hid hb
        have HO := hid ho
        clear hb ho
        by_cases hlt : j < n
        · have u0 : ((j : Int) < n) = True := eq_true (by omega)
          have u1 : decide ((j : Int) < n) = true := decide_eq_true (by omega)
          have u2 : IntKind.i64.wrap ((j : Int) + 1) = ((j + 1 : Nat) : Int) := by have := HN3.out; rw [IntKind.wrap_i64]; omega
          have u3 : (j < n) = True := eq_true hlt
          obtain ⟨b, o, rfl, hcl⟩ := HS.out.get j hlt
          obtain ⟨x0, x1, x2, x3⟩ := hcl.at H6.out.below
          have HW := hid (HS.out.wf j hlt)
          have HCL := hid hcl
          clear hcl
          generalize hf : S j = f at x0 x1 x2 x3 HW HCL
          obtain ⟨f0, f1, f2, f3⟩ := f
          have HF := hid hf
          clear hf
          simp only at x0 x1 x2 x3
          by_cases h20 : 20 < f3.size
          · have y0 : (20 < (f3.size : Int)) = True := eq_true (by omega)
            have y1 : decide (20 < (f3.size : Int)) = true := decide_eq_true (by omega)
            have y2 : (20 < f3.size) = True := eq_true h20
            clear h20
            go_wp2_with fail
            go_ret
            exact ⟨rfl, H6.out.below⟩
          · have y0 : (20 < (f3.size : Int)) = False := eq_false (by omega)
            have y1 : decide (20 < (f3.size : Int)) = false := decide_eq_false (by omega)
            have y2 : (20 < f3.size) = False := eq_false h20
            clear h20
            go_wp2_with fail
            refine (wb_ask H6.out 0 (by rw [HO.out.n]; decide) ⟨f0, f1, f2, f3⟩ HW.out).mono ?_
            rintro y w3 ⟨rfl, h3⟩
            have H7 := hid h3
            have HO7 := hid (HO.out.ask ⟨f0, f1, f2, f3⟩)
            clear h3 H6 HO x0 x1 x2 x3 y0 y1 y2
            have hj2 : j < n2 := by have := HN4.out; omega
            obtain ⟨b2, o2, rfl, hz⟩ := HT.out.get j hj2
            have HZ := hid hz
            have v0 : ((j : Int) < n2) = True := eq_true (by omega)
            have v1 : (j < n2) = True := eq_true hj2
            clear hz hj2
            generalize T j = x at HZ
            go_wp2_with fail
            generalize hc7 : c.ask 0 ⟨f0, f1, f2, f3⟩ = c7 at H7 HO7
            clear hc7
            go_loopw [7] (fun i wr => ∃ (k : Nat) (c : Gc), k ≤ 250 ∧ i = .int .i64 k ∧ WB w wr B g [] c ∧ S4 c (250 * j + k)) (fun i _ => 250 - (intOf i).toNat)
            case atStart => exact ⟨0, _, Nat.zero_le _, rfl, H7.out, HO7.out⟩
            case round =>
              clear H7 HO7
              obtain ⟨k, c8, hk, rfl, hb, ho⟩ := hrel
              have H8 := hid hb
              have HO8 := hid ho
              clear hb ho
              by_cases hkt : k < 250
              · have t0 : ((k : Int) < 250) = True := eq_true (by omega)
                have t1 : decide ((k : Int) < 250) = true := decide_eq_true (by omega)
                have t2 : IntKind.i64.wrap ((k : Int) + 1) = ((k + 1 : Nat) : Int) := by rw [IntKind.wrap_i64]; omega
                have t3 : (k < 250) = True := eq_true hkt
                have z0 : _ = some (Value.int .u8 x) := (H8.out.below.cell (World.block_lt_of_cell? w _ HZ.out)).trans HZ.out
                go_wp2_with fail
                refine (wb_step H8.out _ (by rw [HO8.out.bn]; have := HN3.out; omega)).mono ?_
                rintro y w9 ⟨v, rfl, h9, _⟩
                have H9 := hid h9
                have HO9 := hid (HO8.out.step ((k : Int) == wrap64 x))
                clear h9 H8
                go_wp2_with fail
                exact ⟨⟨k + 1, _, by omega, rfl, H9.out, HO9.out⟩, by simp [intOf]; omega⟩
              · obtain rfl : k = 250 := by omega
                go_wp2_with fail
                exact ⟨⟨j + 1, c8, by omega, rfl, H8.out, by rw [Nat.mul_add]; exact HO8.out⟩, by simp [intOf]; omega⟩
        · obtain rfl : j = n := by omega
          have EN := hid HO.out.n
          go_wp2_with fail
          refine (wb_heard H6.out 2 (by rw [EN.out]; decide)).mono ?_
          rintro y w7 ⟨v7, rfl, h7, k7, h7'⟩
          have H7 := hid h7'
          have HQ7 := hid h7
          clear h7 h7' H6 k7
          go_wp2_with fail
          refine (wb_heard H7.out 3 (by rw [EN.out]; decide)).mono ?_
          rintro y w8 ⟨v8, rfl, h8, k8, h8'⟩
          have H8 := hid h8'
          have HQ8 := hid h8
          rw [← HO.out.h2] at HQ8
          have HR7 := hid (evs_below HQ7.out k8)
          have HSH := hid (show (c.hs 2).length ≤ 1000 by obtain ⟨F, q, _⟩ := H8.out.out; exact Nat.le_trans (q.short 2 (by rw [EN.out]; decide)) (by decide))
          clear h8 h8' H7 k8 HQ7
          go_wp2_with fail
          refine (same_calls _ v7 v8 _ _ _ HR7.out HQ8.out HSH.out).mono ?_
          rintro y w9 ⟨rfl, k9⟩
          have H9 := hid (H8.out.later k9)
          clear H8 HR7 HQ8 k9
          go_wp2_with fail
          refine (wb_mac H9.out 2 (by rw [EN.out]; decide)).mono ?_
          rintro y w10 ⟨q2, rfl, hq2, rfl⟩
          have HQ2 := hid hq2
          clear hq2
          go_wp2_with fail
          refine (nf_counts HQ2.out).mono ?_
          rintro y w10 ⟨rfl, _, k10⟩
          have H10 := hid (H9.out.later k10)
          clear H9 HQ2 k10
          go_wp2_with fail
          refine (wb_mac H10.out 3 (by rw [EN.out]; decide)).mono ?_
          rintro y w11 ⟨q3, rfl, hq3, rfl⟩
          rw [← HO.out.m2] at hq3
          have HQ3 := hid hq3
          clear hq3
          go_wp2_with fail
          refine (nf_counts HQ3.out).mono ?_
          rintro y w11 ⟨rfl, _, k11⟩
          have H11 := hid (H10.out.later k11)
          clear H10 HQ3 k11
          go_wp2_with fail
          refine (wb_mac H11.out 1 (by rw [EN.out]; decide)).mono ?_
          rintro y w12 ⟨q4, rfl, hq4, rfl⟩
          rw [HO.out.m1] at hq4
          have HQ4 := hid hq4
          clear hq4
          go_wp2_with fail
          refine (nf_counts HQ4.out).mono ?_
          rintro y w12 ⟨rfl, _, k12⟩
          have H12 := hid (H11.out.later k12)
          clear H11 HQ4 k12
          go_wp2_with fail
          refine (wb_mac H12.out 2 (by rw [EN.out]; decide)).mono ?_
          rintro y w13 ⟨q5, rfl, hq5, rfl⟩
          have HQ5 := hid hq5
          clear hq5
          go_wp2_with fail
          refine (nf_counts HQ5.out).mono ?_
          rintro y w13 ⟨rfl, _, k13⟩
          have H13 := hid (H12.out.later k13)
          clear H12 HQ5 k13
          go_wp2_with fail
          go_ret
          exact ⟨rfl, H13.out.below⟩
end Go.Proofs.Ytpkpnaedacefaaa.WireL
