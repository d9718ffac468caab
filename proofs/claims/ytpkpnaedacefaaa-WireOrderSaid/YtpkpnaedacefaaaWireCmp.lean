/- The document's order of frames (ostinatoref3.Cmp), walked; that order in plain Lean. -/
import Derived.Test.YtpkpnaedacefaaaWirePure
import Derived.Test.YtpkpnaedacefaaaRefF
namespace Go.Proofs.Ytpkpnaedacefaaa.WireP
set_option linter.unusedVariables false
set_option linter.unusedSimpArgs false
open Go Go.Proofs.Ytpkpnaedacefaaa.Lib Go.Proofs.Ytpkpnaedacefaaa.Bits Go.Proofs.Ytpkpnaedacefaaa.BitsW Go.Proofs.Ytpkpnaedacefaaa.Frame Go.Proofs.Ytpkpnaedacefaaa.FrameW Go.Proofs.Ytpkpnaedacefaaa.Code Go.Proofs.Ytpkpnaedacefaaa.CodeW Go.Proofs.Ytpkpnaedacefaaa.CodeL Go.Proofs.Ytpkpnaedacefaaa.Mac Go.Proofs.Ytpkpnaedacefaaa.MacW Go.Proofs.Ytpkpnaedacefaaa.WireN Go.Proofs.Ytpkpnaedacefaaa.WireW
/-- Which of two rows has the first 0. -/
def cmpB : List Bool → List Bool → Int
  | c :: x, d :: y => if c = d then cmpB x y else if c = false then -1 else 1
  | _, _ => 0
/-- A frame's bits by which it wins. -/
def abits (f : Fm) : List Bool := arbL f.e f.i.toNat f.r
def cmpF (a b : Fm) : Int := cmpB (abits a) (abits b)
theorem cmpB_val : ∀ (x y : List Bool), cmpB x y = -1 ∨ cmpB x y = 0 ∨ cmpB x y = 1
  | [], _ => by simp [cmpB]
  | _ :: _, [] => by simp [cmpB]
  | c :: x, d :: y => by
    unfold cmpB
    split
    · exact cmpB_val x y
    · split
      · exact .inl rfl
      · exact .inr (.inr rfl)
theorem cmpB_swap : ∀ (x y : List Bool), cmpB y x = -(cmpB x y)
  | [], [] => rfl
  | [], _ :: _ => rfl
  | _ :: _, [] => rfl
  | c :: x, d :: y => by
    unfold cmpB
    by_cases h : c = d
    · rw [if_pos h, if_pos h.symm]; exact cmpB_swap x y
    · rw [if_neg h, if_neg (fun e => h e.symm)]
      cases c <;> cases d <;> simp_all
theorem cmpB_trans : ∀ (x y z : List Bool), cmpB x y = -1 → cmpB y z = -1 → cmpB x z = -1
  | [], _, _, h, _ => by simp [cmpB] at h
  | _ :: _, [], _, h, _ => by simp [cmpB] at h
  | _ :: _, _ :: _, [], _, h => by simp [cmpB] at h
  | c :: x, d :: y, e :: z, h1, h2 => by
    have ih := cmpB_trans x y z
    unfold cmpB at h1 h2 ⊢
    cases c <;> cases d <;> cases e <;> simp_all
theorem cmpB_split : ∀ (x y : List Bool), cmpB x y = -1 → ∃ p s u, x = p ++ false :: s ∧ y = p ++ true :: u
  | [], _, h => by simp [cmpB] at h
  | _ :: _, [], h => by simp [cmpB] at h
  | c :: x, d :: y, h => by
    unfold cmpB at h
    by_cases hc : c = d
    · subst hc
      rw [if_pos rfl] at h
      obtain ⟨p, s, u, rfl, rfl⟩ := cmpB_split x y h
      exact ⟨c :: p, s, u, rfl, rfl⟩
    · rw [if_neg hc] at h
      cases c
      · cases d
        · exact absurd rfl hc
        · exact ⟨[], x, y, rfl, rfl⟩
      · rw [if_neg (by decide)] at h; cases h
theorem cmp_apart {V L : Fm} (hV : V.Good) (hL : L.Good) (h : cmpF V L = -1) : ∃ D, Apart V L D := by
  obtain ⟨p, s, u, e1, e2⟩ := cmpB_split _ _ h
  exact ⟨_, apart_of hV hL e1 e2⟩
end Go.Proofs.Ytpkpnaedacefaaa.WireP
namespace Go.Proofs.Ytpkpnaedacefaaa.WireL
set_option linter.unusedVariables false
set_option linter.unusedSimpArgs false
open Go Go.RowKit Go.Proofs.Ytpkpnaedacefaaa.Lib Go.Proofs.Ytpkpnaedacefaaa.Bits Go.Proofs.Ytpkpnaedacefaaa.BitsW Go.Proofs.Ytpkpnaedacefaaa.StuffW Go.Proofs.Ytpkpnaedacefaaa.Frame Go.Proofs.Ytpkpnaedacefaaa.FrameW Go.Proofs.Ytpkpnaedacefaaa.Code Go.Proofs.Ytpkpnaedacefaaa.CodeW Go.Proofs.Ytpkpnaedacefaaa.Mac Go.Proofs.Ytpkpnaedacefaaa.MacW Go.Proofs.Ytpkpnaedacefaaa.RefW Go.Proofs.Ytpkpnaedacefaaa.WireN Go.Proofs.Ytpkpnaedacefaaa.WireW Go.Proofs.Ytpkpnaedacefaaa.WireP Go.Proofs.Ytpkpnaedacefaaa.PrintMore
attribute [local go_sem] max2_int min2_int max_two min_two
/-- Two frames in boxes. -/
structure C2 (w W : World) (p q : Nat) (a b : Fm) : Prop where
  a : Blk W p 24 (fc a)
  b : Blk W q 24 (fc b)
  below : Below w.heap.size w W
theorem C2.later {w W W' : World} {p q : Nat} {a b : Fm} (h : C2 w W p q a b) (k : Below W.heap.size W W') : C2 w W' p q a b := ⟨h.a.below k, h.b.below k, h.below.trans (k.mono h.below.size)⟩
set_option maxRecDepth 100000 in
set_option maxHeartbeats 6400000 in
theorem cmp_calls (a b : Fm) (w : World) (ha : a.Good) (hb : b.Good) : Calls Try.prog 17 #[.agg #[.bool a.e, .int .u32 a.i, .bool a.r, .string a.d], .agg #[.bool b.e, .int .u32 b.i, .bool b.r, .string b.d]] w fun e w' => e = .returned (.int .i64 (cmpF a b)) ∧ Below w.heap.size w w' := by
  have ea : arbF a.e a.i a.r a.d = B (abits a) := by unfold arbF; exact if_pos ha.ok
  have eb : arbF b.e b.i b.r b.d = B (abits b) := by unfold arbF; exact if_pos hb.ok
  have HWA := hid ha.wf
  have HWB := hid hb.wf
  have la : (abits a).length ≤ 33 := by unfold abits; rw [arbL_length]; split <;> omega
  have lb : (abits b).length ≤ 33 := by unfold abits; rw [arbL_length]; split <;> omega
  have hR : cmpF a b = cmpB (abits a) (abits b) := rfl
  generalize cmpF a b = R at hR ⊢
  generalize abits a = x at ea la hR
  generalize abits b = y at eb lb hR
  obtain ⟨a0, a1, a2, a3⟩ := a
  obtain ⟨b0, b1, b2, b3⟩ := b
  have hs : (w.alloc (.cells #[.bool a0, .int .u32 a1, .bool a2, .string a3] 24)).heap.size = w.heap.size + 1 := by simp
  have hq := Blk.new (w.alloc (.cells #[.bool a0, .int .u32 a1, .bool a2, .string a3] 24)) (fc ⟨b0, b1, b2, b3⟩) 24
  rw [hs] at hq
  have HC := hid (show C2 w ((w.alloc (.cells #[.bool a0, .int .u32 a1, .bool a2, .string a3] 24)).alloc (.cells #[.bool b0, .int .u32 b1, .bool b2, .string b3] 24)) w.heap.size (w.heap.size + 1) ⟨a0, a1, a2, a3⟩ ⟨b0, b1, b2, b3⟩ from
    ⟨(Blk.new w (fc ⟨a0, a1, a2, a3⟩) _).alloc _, hq, ((Below.refl _ w).alloc (Nat.le_refl _) _).alloc (by simp) _⟩)
  have HEA := hid ea
  have HEB := hid eb
  have HLA := hid la
  have HLB := hid lb
  have HR := hid hR
  clear ha hb hs hq ea eb la lb hR
  simp only
  go_enter Try.func17, Try.ntmps17
  go_wp2_with fail
  generalize hp : w.heap.size = p at HC
  have HP := hid hp
  clear hp
  refine region_text (by kernel_rfl) (by kernel_rfl) (fun _ _ W => C2 w W p (p + 1) ⟨a0, a1, a2, a3⟩ ⟨b0, b1, b2, b3⟩) (HC.out.later (Below.refl _ _).drew) ?_
  clear HC
  refine t_pure (.agg #[.bool a0, .int .u32 a1, .bool a2, .string a3]) (fun _ => rfl) (fun b γ W h => h) (fun b γ W h _ => ?_) ?_
  · have c0 : W.cell? ⟨p, 0, none⟩ = some (.bool a0) := h.a.cell 0
    have c1 : W.cell? ⟨p, 1, none⟩ = some (.int .u32 a1) := h.a.cell 1
    have c2 : W.cell? ⟨p, 2, none⟩ = some (.bool a2) := h.a.cell 2
    have c3 : W.cell? ⟨p, 3, none⟩ = some (.string a3) := h.a.cell 3
    go_simp
  refine t_call (.string (B x)) (fun _ => rfl) (f := 30) (args := #[.agg #[.bool a0, .int .u32 a1, .bool a2, .string a3]]) (fun b γ W h _ => by go_simp) (fun b γ W h _ => (rarb_calls a0 a1 a2 a3 W HWA.out).mono (fun e w2 h2 => ⟨by rw [h2.1]; exact congrArg (fun z => Ending.returned (.string z)) HEA.out, h.later h2.2⟩)) ?_
  refine t_pure (.agg #[.bool b0, .int .u32 b1, .bool b2, .string b3]) (fun _ => rfl) (fun b γ W h => h) (fun b γ W h _ => ?_) ?_
  · have c0 : W.cell? ⟨p + 1, 0, none⟩ = some (.bool b0) := h.b.cell 0
    have c1 : W.cell? ⟨p + 1, 1, none⟩ = some (.int .u32 b1) := h.b.cell 1
    have c2 : W.cell? ⟨p + 1, 2, none⟩ = some (.bool b2) := h.b.cell 2
    have c3 : W.cell? ⟨p + 1, 3, none⟩ = some (.string b3) := h.b.cell 3
    go_simp
  refine t_call (.string (B y)) (fun _ => rfl) (f := 30) (args := #[.agg #[.bool b0, .int .u32 b1, .bool b2, .string b3]]) (fun b γ W h _ => by go_simp) (fun b γ W h _ => (rarb_calls b0 b1 b2 b3 W HWB.out).mono (fun e w2 h2 => ⟨by rw [h2.1]; exact congrArg (fun z => Ending.returned (.string z)) HEB.out, h.later h2.2⟩)) ?_
  refine t_pure (.string (B x)) (fun _ => rfl) (fun b γ W h => h) (fun b γ W h _ => by go_simp) ?_
  refine t_pure (.string (B y)) (fun _ => rfl) (fun b γ W h => h) (fun b γ W h _ => by go_simp) ?_
  refine t_end ?_
  intro bq gq w2 hall hS
  simp only [Act.put, List.setIfInBounds_toArray, List.set_cons_zero, List.set_cons_succ]
  have HB := hid hS.below
  clear hS hall
  go_wp2_with fail
  have sx : ((B x).size : Int) = (x.length : Int) := by rw [B_size]
  have sy : ((B y).size : Int) = (y.length : Int) := by rw [B_size]
  have sx2 := B_size x
  have sy2 := B_size y
  go_loopw [7] (fun i wr => ∃ j : Nat, j ≤ x.length ∧ j ≤ y.length ∧ i = .int .i64 j ∧ R = cmpB (x.drop j) (y.drop j) ∧ Below w.heap.size w wr) (fun i _ => x.length - (intOf i).toNat)
  case atStart => exact ⟨0, Nat.zero_le _, Nat.zero_le _, rfl, HR.out, HB.out⟩
  case round =>
    clear HB HR
    obtain ⟨j, hx, hy, rfl, hR, hb⟩ := hrel
    have HB := hid hb
    clear hb
    by_cases h1 : j < x.length
    · have u0 : ((j : Int) < x.length) = True := eq_true (by omega)
      have u1 : decide ((j : Int) < x.length) = true := decide_eq_true (by omega)
      have u3 : (j < x.length) = True := eq_true h1
      by_cases h2 : j < y.length
      · have v0 : ((j : Int) < y.length) = True := eq_true (by omega)
        have v1 : decide ((j : Int) < y.length) = true := decide_eq_true (by omega)
        have v3 : (j < y.length) = True := eq_true h2
        have u2 : IntKind.i64.wrap ((j : Int) + 1) = ((j + 1 : Nat) : Int) := by have := HLA.out; rw [IntKind.wrap_i64]; omega
        have ix := fun W => idx_bit x j h1 W
        have iy := fun W => idx_bit y j h2 W
        have ex : x.drop j = x.getD j false :: x.drop (j + 1) := by rw [List.drop_eq_getElem_cons h1, List.getD_eq_getElem?_getD, List.getElem?_eq_getElem h1]; rfl
        have ey : y.drop j = y.getD j false :: y.drop (j + 1) := by rw [List.drop_eq_getElem_cons h2, List.getD_eq_getElem?_getD, List.getElem?_eq_getElem h2]; rfl
        rw [ex, ey, cmpB] at hR
        generalize x.getD j false = c at ix hR ex
        generalize y.getD j false = d at iy hR ey
        clear ex ey
        have HX := hid ix
        have HY := hid iy
        have HRR := hid hR
        have HJ := hid (show j + 1 ≤ x.length ∧ j + 1 ≤ y.length from ⟨h1, h2⟩)
        clear ix iy hR h1 h2
        go_wp2_with fail
        refine region_text (by kernel_rfl) (by kernel_rfl) (fun _ _ W => Below w.heap.size w W) HB.out.drew ?_
        clear HB
        iterate 7 ((try simp only [Act.put, List.setIfInBounds_toArray, List.set_cons_zero, List.set_cons_succ]); (refine t_pure ?_ (fun _ => rfl) (fun b γ W h => h) (fun b γ W h _ => ?_) ?_; rotate_left; · (have q1 := HX.out W; have q2 := HY.out W; go_simp; first | rfl | done)))
        refine t_end ?_
        intro bq gq w3 hall hS
        (try simp only [Act.put, List.setIfInBounds_toArray, List.set_cons_zero, List.set_cons_succ])
        have HB3 := hid hS
        clear hS hall
        have hxw := HX.out
        cases c <;> cases d
        · go_wp2_with fail
          exact ⟨⟨j + 1, HJ.out.1, HJ.out.2, rfl, by have := HRR.out; rw [if_pos rfl] at this; exact this, HB3.out⟩, by have := HJ.out; simp [intOf]; omega⟩
        · go_wp2_with fail
          go_ret
          rw [HRR.out]
          exact ⟨rfl, HB3.out⟩
        · go_wp2_with fail
          go_ret
          rw [HRR.out]
          exact ⟨rfl, HB3.out⟩
        · go_wp2_with fail
          exact ⟨⟨j + 1, HJ.out.1, HJ.out.2, rfl, by have := HRR.out; rw [if_pos rfl] at this; exact this, HB3.out⟩, by have := HJ.out; simp [intOf]; omega⟩
      · obtain rfl : j = y.length := by omega
        have v0 : ((y.length : Int) < y.length) = False := eq_false (by omega)
        have v1 : decide ((y.length : Int) < y.length) = false := decide_eq_false (by omega)
        have hR0 : R = 0 := by
          rw [hR, List.drop_of_length_le (l := y) (Nat.le_refl _)]
          cases x.drop y.length <;> rfl
        subst hR0
        clear hR h1 h2
        go_wp2_with fail
        go_ret
        exact ⟨rfl, HB.out⟩
    · obtain rfl : j = x.length := by omega
      have u0 : ((x.length : Int) < x.length) = False := eq_false (by omega)
      have u1 : decide ((x.length : Int) < x.length) = false := decide_eq_false (by omega)
      have hR0 : R = 0 := by
        rw [hR, List.drop_of_length_le (l := x) (Nat.le_refl _)]
        cases y.drop x.length <;> rfl
      subst hR0
      clear hR h1
      go_wp2_with fail
      go_ret
      exact ⟨rfl, HB.out⟩
end Go.Proofs.Ytpkpnaedacefaaa.WireL
