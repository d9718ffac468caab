/- Two rows of events, alike. -/
import Derived.Test.YtpkpnaedacefaaaMacIdle
import Derived.Test.YtpkpnaedacefaaaMacEvs
namespace Go.Proofs.Ytpkpnaedacefaaa.WireL
set_option linter.unusedVariables false
set_option linter.unusedSimpArgs false
open Go Go.RowKit Go.Proofs.Ytpkpnaedacefaaa.Lib Go.Proofs.Ytpkpnaedacefaaa.Bits Go.Proofs.Ytpkpnaedacefaaa.BitsW Go.Proofs.Ytpkpnaedacefaaa.StuffW Go.Proofs.Ytpkpnaedacefaaa.Frame Go.Proofs.Ytpkpnaedacefaaa.FrameW Go.Proofs.Ytpkpnaedacefaaa.Code Go.Proofs.Ytpkpnaedacefaaa.CodeW Go.Proofs.Ytpkpnaedacefaaa.Mac Go.Proofs.Ytpkpnaedacefaaa.MacW Go.Proofs.Ytpkpnaedacefaaa.PrintMore
attribute [local go_sem] max2_int min2_int max_two min_two
attribute [local go_sem high] eqA24
theorem eqA34 (d : Nat) (w : World) (k k' : Int) (x0 y0 : Bool) (x1 y1 : Int) (x2 y2 : Bool) (x3 y3 : ByteArray) (e e' : Int) :
    (Op.equalIn (d + 3) 34 (.agg #[.int .i64 k, .bool x0, .int .u32 x1, .bool x2, .string x3, .int .i64 e]) (.agg #[.int .i64 k', .bool y0, .int .u32 y1, .bool y2, .string y3, .int .i64 e'])).run Try.prog w = .ok (k == k' && ((x0 == y0 && (x1 == y1 && (x2 == y2 && (x3.toList == y3.toList)))) && (e == e'))) w := by
  refine eqA_of Try.underlying34 (by kernel_rfl) ?_
  refine eqf_cons (by rfl) (by go_simp; rfl) (by go_simp; rfl) (by go_simp) ?_
  refine eqf_cons (by rfl) (by go_simp; rfl) (by go_simp; rfl) (by go_simp) ?_
  exact eqf_last (by rfl) (by go_simp; rfl) (by go_simp; rfl) (by go_simp)
attribute [local go_sem high] eqA34
theorem ec_len (x : Ev) : (ec x).length = 6 := rfl
theorem ec_at {L : List Ev} {j : Nat} {x : Ev} (h : L[j]? = some x) (i : Nat) (hi : i < 6) : (L.flatMap ec)[j * 6 + i]? = (ec x)[i]? := by
  induction L generalizing j with
  | nil => simp at h
  | cons y L ih =>
    rw [List.flatMap_cons]
    cases j with
    | zero =>
      simp only [List.getElem?_cons_zero, Option.some.injEq] at h
      subst h
      rw [Nat.zero_mul, Nat.zero_add, List.getElem?_append_left (by rw [ec_len]; exact hi)]
    | succ j =>
      simp only [List.getElem?_cons_succ] at h
      rw [List.getElem?_append_right (by rw [ec_len]; omega), ec_len, show (j + 1) * 6 + i - 6 = j * 6 + i by omega]
      exact ih h
/-- Two rows of events, alike. -/
structure Two (w W : World) (a1 a2 : Option Addr) (L : List Ev) : Prop where
  one : ∀ j x, L[j]? = some x → ∃ g, a1 = some ⟨g, 0, none⟩ ∧ ∀ i, i < 6 → W.cell? ⟨g, j * 6 + i, none⟩ = (ec x)[i]?
  two : ∀ j x, L[j]? = some x → ∃ g, a2 = some ⟨g, 0, none⟩ ∧ ∀ i, i < 6 → W.cell? ⟨g, j * 6 + i, none⟩ = (ec x)[i]?
  below : Below w.heap.size w W
theorem Two.drew {w W : World} {a1 a2 : Option Addr} {L : List Ev} (h : Two w W a1 a2 L) : Two w W.drew a1 a2 L := ⟨h.one, h.two, h.below.drew⟩
set_option maxRecDepth 100000 in
set_option maxHeartbeats 6400000 in
theorem same_calls (w : World) (v1 v2 : Value) (b1 b2 : Nat) (L : List Ev) (h1 : Evs w b1 v1 L) (h2 : Evs w b2 v2 L) (hL : L.length ≤ 1000) :
    Calls Try.prog 14 #[v1, v2] w fun e w' => e = .returned (.bool true) ∧ Below w.heap.size w w' := by
  obtain ⟨a1, k1, rfl, g1⟩ := evs_slice h1
  obtain ⟨a2, k2, rfl, g2⟩ := evs_slice h2
  have HH := hid (show Two w w a1 a2 L by
    refine ⟨fun j x hx => ?_, fun j x hx => ?_, Below.refl _ _⟩
    · obtain ⟨g, rfl, _, _⟩ := g1 (j * 6 + 0) _ (ec_at hx 0 (by decide))
      refine ⟨g, rfl, fun i hi => ?_⟩
      have hs : ∃ u, (ec x)[i]? = some u := ⟨(ec x)[i]'(by rw [ec_len]; exact hi), List.getElem?_eq_getElem _⟩
      obtain ⟨u, hu⟩ := hs
      obtain ⟨g', e, _, hc⟩ := g1 (j * 6 + i) u ((ec_at hx i hi).trans hu)
      injection e with e
      injection e with e
      subst e
      rw [hc, hu]
    · obtain ⟨g, rfl, _, _⟩ := g2 (j * 6 + 0) _ (ec_at hx 0 (by decide))
      refine ⟨g, rfl, fun i hi => ?_⟩
      have hs : ∃ u, (ec x)[i]? = some u := ⟨(ec x)[i]'(by rw [ec_len]; exact hi), List.getElem?_eq_getElem _⟩
      obtain ⟨u, hu⟩ := hs
      obtain ⟨g', e, _, hc⟩ := g2 (j * 6 + i) u ((ec_at hx i hi).trans hu)
      injection e with e
      injection e with e
      subst e
      rw [hc, hu])
  clear g1 g2 h1 h2
  go_enter Try.func14, Try.ntmps14
  go_wp2_with fail
  obtain ⟨n, hn⟩ : ∃ n, n = L.length := ⟨_, rfl⟩
  rw [← hn] at hL ⊢
  have HN := hid hn
  clear hn
  go_loopw [5] (fun i wr => ∃ j : Nat, j ≤ n ∧ i = .int .i64 j ∧ Two w wr a1 a2 L) (fun i _ => n - (intOf i).toNat)
  case atStart => exact ⟨0, Nat.zero_le _, rfl, HH.out⟩
  case round =>
    clear HH
    obtain ⟨j, hj, rfl, HX⟩ := hrel
    have H6 := hid HX
    clear HX
    by_cases hlt : j < n
    · have u0 : ((j : Int) < n) = True := eq_true (by omega)
      have u1 : decide ((j : Int) < n) = true := decide_eq_true (by omega)
      have u2 : IntKind.i64.wrap ((j : Int) + 1) = ((j + 1 : Nat) : Int) := by rw [IntKind.wrap_i64]; omega
      have u3 : (j < n) = True := eq_true hlt
      obtain ⟨x, hx⟩ : ∃ x, L[j]? = some x := ⟨_, List.getElem?_eq_getElem (by rw [← HN.out]; exact hlt)⟩
      obtain ⟨p1, rfl, q1⟩ := H6.out.one j x hx
      obtain ⟨p2, rfl, q2⟩ := H6.out.two j x hx
      clear q1 q2
      go_wp2_with fail
      refine region_text (by kernel_rfl) (by kernel_rfl) (fun _ _ W => Two w W (some ⟨p1, 0, none⟩) (some ⟨p2, 0, none⟩) L) H6.out.drew ?_
      iterate 9 ((try simp only [Act.put, List.setIfInBounds_toArray, List.set_cons_zero, List.set_cons_succ]); (refine t_pure ?_ (fun _ => rfl) (fun b γ W h => h) (fun b γ W h _ => ?_) ?_; rotate_left; · (obtain ⟨p1', e1, r1⟩ := h.one j x hx
                                                                                                                                                                                                              obtain ⟨p2', e2, r2⟩ := h.two j x hx
                                                                                                                                                                                                              injection e1 with e1; injection e1 with e1; subst e1
                                                                                                                                                                                                              injection e2 with e2; injection e2 with e2; subst e2
                                                                                                                                                                                                              have x0 := r1 0 (by decide); have x1 := r1 1 (by decide); have x2 := r1 2 (by decide); have x3 := r1 3 (by decide); have x4 := r1 4 (by decide); have x5 := r1 5 (by decide)
                                                                                                                                                                                                              have y0 := r2 0 (by decide); have y1 := r2 1 (by decide); have y2 := r2 2 (by decide); have y3 := r2 3 (by decide); have y4 := r2 4 (by decide); have y5 := r2 5 (by decide)
                                                                                                                                                                                                              simp only [ec, List.getElem?_cons_zero, List.getElem?_cons_succ, Nat.add_zero] at x0 x1 x2 x3 x4 x5 y0 y1 y2 y3 y4 y5
                                                                                                                                                                                                              clear r1 r2 h
                                                                                                                                                                                                              go_simp; first | rfl | (simp; done))))
      refine t_end ?_
      intro bq gq w2 hall h2
      (try simp only [Act.put, List.setIfInBounds_toArray, List.set_cons_zero, List.set_cons_succ])
      have H2 := hid h2
      clear hall h2 H6
      go_wp2_with fail
      go_roundw
      case rel => exact ⟨j + 1, by omega, by go_num, H2.out⟩
      case measure => simp [intOf]; omega
    · obtain rfl : j = n := by omega
      clear hlt hj
      go_wp2_with fail
      go_ret
      exact ⟨rfl, H6.out.below⟩
end Go.Proofs.Ytpkpnaedacefaaa.WireL
