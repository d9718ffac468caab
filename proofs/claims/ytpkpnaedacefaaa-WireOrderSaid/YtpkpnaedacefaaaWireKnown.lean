/- What layer 8's laws all ask first. -/
import Derived.Test.YtpkpnaedacefaaaWireH
import Derived.Test.YtpkpnaedacefaaaWirePure
import Derived.Test.YtpkpnaedacefaaaMacIdle
namespace Go.Proofs.Ytpkpnaedacefaaa.WireL
set_option linter.unusedVariables false
set_option linter.unusedSimpArgs false
open Go Go.RowKit Go.Proofs.Ytpkpnaedacefaaa.Lib Go.Proofs.Ytpkpnaedacefaaa.Bits Go.Proofs.Ytpkpnaedacefaaa.BitsW Go.Proofs.Ytpkpnaedacefaaa.StuffW Go.Proofs.Ytpkpnaedacefaaa.Frame Go.Proofs.Ytpkpnaedacefaaa.FrameW Go.Proofs.Ytpkpnaedacefaaa.Code Go.Proofs.Ytpkpnaedacefaaa.CodeW Go.Proofs.Ytpkpnaedacefaaa.Mac Go.Proofs.Ytpkpnaedacefaaa.MacW Go.Proofs.Ytpkpnaedacefaaa.MacL Go.Proofs.Ytpkpnaedacefaaa.WireN Go.Proofs.Ytpkpnaedacefaaa.WireW Go.Proofs.Ytpkpnaedacefaaa.WireP Go.Proofs.Ytpkpnaedacefaaa.PrintMore
attribute [local go_sem] max2_int min2_int max_two min_two
attribute [local go_sem high] eqA24
def k7 : Fm := ⟨false, 7, false, ⟨#[]⟩⟩
theorem k7_good : k7.Good := ⟨by decide +kernel, by unfold Fm.wf k7; decide⟩
theorem k7_len : k7.ack.length ≤ 67 := by decide +kernel
theorem evs_el {W : World} {b : Nat} {v : Value} {x : Ev} {L : List Ev} (h : Evs W b v (x :: L)) : ∃ q cap, v = .slice (some ⟨q, 0, none⟩) (L.length + 1) cap ∧ EL W q (x :: L) := by
  obtain ⟨a, cap, rfl, hc⟩ := evs_slice h
  obtain ⟨q, rfl, _⟩ := hc 0 _ rfl
  exact ⟨q, cap, rfl, ⟨b, cap, h⟩⟩
theorem WB.fr {w W : World} {B g p : Nat} {f : Fm} {ps : List (Nat × Fm)} {c : Gc} (h : WB w W B g ((p, f) :: ps) c) : W.cell? ⟨p, 0, none⟩ = some (.bool f.e) ∧ W.cell? ⟨p, 1, none⟩ = some (.int .u32 f.i) ∧ W.cell? ⟨p, 2, none⟩ = some (.bool f.r) ∧ W.cell? ⟨p, 3, none⟩ = some (.string f.d) :=
  box_fr (h.box (p, f) List.mem_cons_self)
set_option maxRecDepth 100000 in
set_option maxHeartbeats 6400000 in
theorem known_calls (w : World) : Calls Try.prog 8 #[] w fun e w' => e = .returned (.bool true) ∧ Below w.heap.size w w' := by
  have HN := hid (wb_new (ps := []) 2 (Below.refl w.heap.size w) (fun x hx => by cases hx))
  have HK := hid k7_good
  go_enter Try.func8, Try.ntmps8
  go_wp2_with fail
  with_reducible refine HN.out.mono ?_
  rintro y w1 ⟨g, rfl, h1⟩
  have h1 : WB w w1 w.heap.size g [] (Gc.new 2) := h1
  have H2 := hid (show WB w (w1.alloc (.cells #[.bool false, .int .u32 7, .bool false, .string ⟨#[]⟩] 24)) w.heap.size g [(w1.heap.size, k7)] (Gc.new 2) from h1.add k7)
  clear h1 HN
  obtain ⟨x0, x1, x2, x3⟩ := WB.fr H2.out
  simp only [k7] at x0 x1 x2 x3
  go_wp2_with fail
  with_reducible refine (wb_len H2.out).mono ?_
  rintro y w2 ⟨rfl, rfl⟩
  rw [show ((Gc.new 2).n : Int) = 2 from rfl]
  go_wp2_with fail
  obtain ⟨o1, o2⟩ := one_start (k := 2) (s := 0) HK.out (by decide)
  generalize w1.heap.size = p at H2 x0 x1 x2 x3 ⊢
  have HO1 := hid o1
  have HO2 := hid o2
  clear o1 o2
  refine (wb_ask H2.out 0 (by decide) k7 HK.out.wf).mono ?_
  rintro y w3 ⟨rfl, h3⟩
  have H3 := hid h3
  rw [HO2.out]
  clear h3 H2
  obtain ⟨x0, x1, x2, x3⟩ := WB.fr H3.out
  simp only [k7] at x0 x1 x2 x3
  go_wp2_with fail
  refine (wb_ask_out H3.out 5 (.inr (by decide)) k7).mono ?_
  rintro y w4 ⟨rfl, h4⟩
  have H4 := hid h4
  clear h4 H3
  obtain ⟨x0, x1, x2, x3⟩ := WB.fr H4.out
  simp only [k7] at x0 x1 x2 x3
  go_wp2_with fail
  refine (wb_mac_out H4.out 9 (.inr (by decide))).mono ?_
  rintro y w5 ⟨rfl, rfl⟩
  go_wp2_with fail
  go_loopw [3] (fun i wr => ∃ (j : Nat) (c : Gc), j ≤ 70 ∧ i = .int .i64 j ∧ WB w wr w.heap.size g [(p, k7)] c ∧ One 2 0 k7 j c) (fun i _ => 70 - (intOf i).toNat)
  case atStart => exact ⟨0, _, Nat.zero_le _, rfl, H4.out, HO1.out⟩
  case round =>
    clear H4 HO1 HO2 x0 x1 x2 x3
    obtain ⟨j, c, hj, rfl, hb, ho⟩ := hrel
    have H6 := hid hb
    have HO := hid ho
    clear hb ho
    by_cases hlt : j < 70
    · have u0 : ((j : Int) < 70) = True := eq_true (by omega)
      have u1 : decide ((j : Int) < 70) = true := decide_eq_true (by omega)
      have u2 : IntKind.i64.wrap ((j : Int) + 1) = ((j + 1 : Nat) : Int) := by rw [IntKind.wrap_i64]; omega
      have u3 : (j < 70) = True := eq_true hlt
      go_wp2_with fail
      with_reducible refine (wb_step H6.out false (by rw [HO.out.bn]; omega)).mono ?_
      rintro y w7 ⟨v, rfl, h7, _⟩
      have H7 := hid h7
      have HO7 := hid (HO.out.step HK.out (by decide) (by decide)).1
      clear h7 H6
      go_wp2_with fail
      exact ⟨⟨j + 1, _, by omega, rfl, H7.out, HO7.out⟩, by simp [intOf]; omega⟩
    · obtain rfl : j = 70 := by omega
      have hl := k7_len
      have e0 : c.hs 0 = [⟨6, Fm.zero, 0⟩, ⟨1, k7, 0⟩] := by
        rw [HO.out.hs 0 (by decide), if_pos rfl]
        unfold hearS
        rw [if_neg (by decide), if_neg (by omega)]
      have e1 : c.hs 1 = [⟨6, Fm.zero, 0⟩, ⟨2, k7, 0⟩] := by
        rw [HO.out.hs 1 (by decide), if_neg (by decide)]
        unfold hearL
        rw [if_neg (by decide), if_neg (by omega)]
      have en : c.n = 2 := HO.out.n
      have E0 := hid e0
      have E1 := hid e1
      have EN := hid en
      clear e0 e1 en hl
      go_wp2_with fail
      refine (wb_heard H6.out 0 (by rw [EN.out]; decide)).mono ?_
      rintro y w7 ⟨v, rfl, h7, _, h7'⟩
      rw [E0.out] at h7
      obtain ⟨q1, cap1, rfl, hq1⟩ := evs_el h7
      have H7 := hid h7'
      have HQ1 := hid hq1
      clear h7 h7' H6 hq1
      go_wp2_with fail
      refine (wb_heard H7.out 1 (by rw [EN.out]; decide)).mono ?_
      rintro y w8 ⟨v, rfl, h8, k8, h8'⟩
      rw [E1.out] at h8
      obtain ⟨q2, cap2, rfl, hq2⟩ := evs_el h8
      have H8 := hid h8'
      have HR1 := hid (HQ1.out.later k8)
      have HR2 := hid hq2
      clear h8 k8 h8' H7 hq2 HQ1
      simp only [List.length_cons, List.length_nil] at *
      go_wp2_with fail
      refine region_text (by kernel_rfl) (by kernel_rfl) (fun _ _ W => WB w W w.heap.size g [(p, k7)] c ∧ EL W q1 [⟨6, Fm.zero, 0⟩, ⟨1, k7, 0⟩] ∧ EL W q2 [⟨6, Fm.zero, 0⟩, ⟨2, k7, 0⟩]) ⟨H8.out.drew, HR1.out.drew, HR2.out.drew⟩ ?_
      iterate 37 ((try simp only [Act.put, List.setIfInBounds_toArray, List.set_cons_zero, List.set_cons_succ]); first
        | (refine t_skip (fun _ => rfl) (fun b γ W h => h) ?_)
        | (refine t_call (.slice none 0 0) (fun _ => rfl) (f := 13) (args := #[.pointer (some ⟨g, 0, none⟩), .int .i64 7]) ?_ (fun b γ W h _ => (wb_heard_out h.1 7 (.inr (by rw [EN.out]; decide))).mono (fun e w2 h2 => ⟨h2.1, by rw [h2.2]; exact h⟩)) ?_; · (intro b γ W h _; go_simp; done))
        | (refine t_pure ?_ (fun _ => rfl) (fun b γ W h => h) (fun b γ W h _ => ?_) ?_; rotate_left; · (have y6 := h.2.1.get 6 _ rfl; have z6 := h.2.2.get 6 _ rfl; have z7 := h.2.2.get 7 _ rfl; have z8 := h.2.2.get 8 _ rfl; have z9 := h.2.2.get 9 _ rfl; have z10 := h.2.2.get 10 _ rfl; obtain ⟨x0, x1, x2, x3⟩ := WB.fr h.1; simp only [k7] at z7 z8 z9 z10 x0 x1 x2 x3; go_simp; rfl)))
      refine t_end ?_
      intro bq gq w11 hall hS
      clear hall
      (try simp only [Act.put, List.setIfInBounds_toArray, List.set_cons_zero, List.set_cons_succ])
      go_wp2_with fail
      go_ret
      exact ⟨rfl, hS.1.below⟩
end Go.Proofs.Ytpkpnaedacefaaa.WireL
