/- The document's node on the wire (package ostinatoref7), walked: Sample, New; ostinatolaw7.same; both nodes in memory. -/
import Derived.Test.YtpkpnaedacefaaaGreatRefMf
import Derived.Test.YtpkpnaedacefaaaGreatMacIdle
namespace Go.Proofs.YtpkpnaedacefaaaGreat.MacR
set_option linter.unusedVariables false
set_option linter.unusedSimpArgs false
open Go Go.RowKit Go.Proofs.YtpkpnaedacefaaaGreat.Lib Go.Proofs.YtpkpnaedacefaaaGreat.Bits Go.Proofs.YtpkpnaedacefaaaGreat.BitsW Go.Proofs.YtpkpnaedacefaaaGreat.StuffW Go.Proofs.YtpkpnaedacefaaaGreat.Frame Go.Proofs.YtpkpnaedacefaaaGreat.FrameW Go.Proofs.YtpkpnaedacefaaaGreat.Code Go.Proofs.YtpkpnaedacefaaaGreat.CodeW Go.Proofs.YtpkpnaedacefaaaGreat.CodeL Go.Proofs.YtpkpnaedacefaaaGreat.Mac Go.Proofs.YtpkpnaedacefaaaGreat.MacW Go.Proofs.YtpkpnaedacefaaaGreat.RefW Go.Proofs.YtpkpnaedacefaaaGreat.PrintMore
attribute [local go_sem] max2_int min2_int max_two min_two
theorem sg_bne48 (c : Bool) : (((sg c).toNat : Int) != 48) = c := by cases c <;> rfl
attribute [local go_sem] sg_test sg_low sg_bne sg_bne48
/-- What the walk of Sample asks of a node. -/
structure QS (q : Q7) : Prop where
  qb : QB q
  lo : -1000 ≤ q.left
  hi : q.left ≤ 1000
  at_ : q.st = 1 → q.sender = true → q.at_ < q.out.length
  len : q.out.length ≤ 1000
  arb : q.arb ≤ 1000
  wf : q.f.wf
  st : q.st = 0 ∨ q.st = 1 ∨ q.st = 2 ∨ q.st = 3 ∨ q.st = 4 ∨ q.st = 5
set_option maxRecDepth 100000 in
set_option maxHeartbeats 12800000 in
theorem qsample_calls (g gr : Nat) (q : Q7) (c : Bool) (x : Int) (hx : (x == 48) = !c) (w : World) (hb : Blk w g QT (qc q gr)) (hr : Blk w gr RT (R3.cells q.r)) (hS : QS q) :
    Calls Tryz.prog 30 #[.pointer (some ⟨g, 0, none⟩), .int .u8 x] w fun e w' => ∃ v gr', e = .returned v ∧ QP w w' g gr gr' (q.sample c).1 ∧ Evs w' w.heap.size v (q.sample c).2 := by
  have hx2 : (x != 48) = c := by rw [bne, hx]; cases c <;> rfl
  have hx3 : (x = 48) = (c = false) := propext ⟨fun h => by rw [beq_iff_eq.2 h] at hx; cases c <;> simp_all, fun h => by rw [h] at hx; exact beq_iff_eq.1 hx⟩
  have hne : gr ≠ g := rd_ne hb hr
  have H0 := hid (show QP w w g gr gr q from ⟨hb, hr, G2.refl w g gr, .inl rfl⟩)
  have HS := hid hS
  have c0 := (hq hb).st
  have c1 := (hq hb).left
  have c2 := (hq hb).first
  have c3 := (hq hb).sender
  have c4 := (hq hb).has
  have f0 := hb.frozen 0
  have f1 := hb.frozen 1
  have f2 := hb.frozen 2
  obtain ⟨X, hX⟩ : ∃ X, X = q.sample c := ⟨_, rfl⟩
  rw [← hX]
  unfold Q7.sample at hX
  have HX := hid hX
  clear hX
  rcases hS.st with h | h | h | h | h | h
  all_goals
    have HT := hid h
    rw [h] at c0
    clear h
  all_goals clear hS hb hr
  · have hX := HX.out
    clear HX
    rw [if_pos HT.out] at hX
    cases c
    · rw [if_neg (by decide)] at hX
      have HX := hid hX
      clear hX
      go_enter Tryz.func30, Tryz.ntmps30
      go_wp2_with fail
      refine (qbegin_calls g gr q q.has _ H0.out.node H0.out.rd HS.out.wf).mono ?_
      rintro y w1 ⟨v, gr', rfl, h1, h2⟩
      have H1 := hid h1
      have H2 := hid h2
      clear h1 h2
      go_wp2_with fail
      go_ret
      rw [HX.out]
      exact ⟨_, _, rfl, H1.out, H2.out⟩
    · rw [if_pos rfl] at hX
      have HX := hid hX
      clear hX
      go_enter Tryz.func30, Tryz.ntmps30
      go_wp2_with fail
      go_ret
      rw [HX.out]
      exact ⟨_, _, rfl, H0.out, evs_nil _ _⟩
  · have hX := HX.out
    clear HX
    rw [if_neg (show ¬ q.st = 0 by rw [HT.out]; decide), if_pos HT.out] at hX
    cases hs : q.sender
    · rw [hs] at c3
      rw [if_neg (by rw [hs]; decide)] at hX
      have HX := hid hX
      clear hX hs
      go_enter Tryz.func30, Tryz.ntmps30
      go_wp2_with fail
      refine (qhearing_calls g gr q c _ H0.out.node H0.out.rd HS.out.qb).mono ?_
      rintro y w1 ⟨v, rfl, h1, h2⟩
      have H1 := hid h1
      have H2 := hid h2
      clear h1 h2
      go_wp2_with fail
      go_ret
      rw [HX.out]
      exact ⟨_, _, rfl, H1.out, H2.out⟩
    · rw [hs] at c3
      rw [if_pos hs] at hX
      have HX := hid hX
      have HA := hid (HS.out.at_ HT.out hs)
      clear hX hs
      go_enter Tryz.func30, Tryz.ntmps30
      go_wp2_with fail
      refine (qsending_calls g gr q c _ H0.out.node H0.out.rd HS.out.qb HA.out HS.out.len HS.out.arb).mono ?_
      rintro y w1 ⟨v, rfl, h1, h2⟩
      have H1 := hid h1
      have H2 := hid h2
      clear h1 h2
      go_wp2_with fail
      go_ret
      rw [HX.out]
      exact ⟨_, _, rfl, H1.out, H2.out⟩
  · have hX := HX.out
    clear HX
    rw [if_neg (show ¬ q.st = 0 by rw [HT.out]; decide), if_neg (show ¬ q.st = 1 by rw [HT.out]; decide), if_pos HT.out] at hX
    have ew : IntKind.i64.wrap (q.left - 1) = q.left - 1 := by have := HS.out.lo; have := HS.out.hi; rw [IntKind.wrap_i64]; omega
    have h1 : QP w (w.setCell ⟨g, 1, none⟩ (.int .i64 (q.left - 1))) g gr gr { q with left := q.left - 1 } := H0.out.set 1 _ rfl rfl
    have d0 := (hq h1.node).st
    have d1 := (hq h1.node).left
    have g0 := h1.node.frozen 0
    have g1 := h1.node.frozen 1
    have g2 := h1.node.frozen 2
    simp only at d0 d1
    rw [HT.out] at d0
    have H1 := hid h1
    clear h1
    by_cases hl : q.left - 1 = 0
    · rw [if_pos hl] at hX
      have e1 : (q.left - 1 = 0) = True := eq_true hl
      have e2 : (q.left - 1 == 0) = true := by simp [hl]
      have HX := hid hX
      clear hX hl
      have HR := hid (show QP w ((((w.setCell ⟨g, 1, none⟩ (.int .i64 (q.left - 1))).setCell ⟨g, 0, none⟩ (.int .i64 3)).setCell ⟨g, 1, none⟩ (.int .i64 7)).setCell ⟨g, 2, none⟩ (.bool true)) g gr gr { q with st := 3, left := 7, first := true } from
        ((H1.out.set (q' := { q with left := q.left - 1, st := 3 }) 0 _ rfl rfl).set (q' := { q with st := 3, left := 7 }) 1 _ rfl rfl).set 2 _ rfl rfl)
      go_enter Tryz.func30, Tryz.ntmps30
      go_wp2_with fail
      go_ret
      rw [HX.out]
      exact ⟨_, _, rfl, HR.out, evs_nil _ _⟩
    · rw [if_neg hl] at hX
      have e1 : (q.left - 1 = 0) = False := eq_false hl
      have e2 : (q.left - 1 == 0) = false := by simp [hl]
      have HX := hid hX
      clear hX hl
      go_enter Tryz.func30, Tryz.ntmps30
      go_wp2_with fail
      go_ret
      rw [HX.out]
      exact ⟨_, _, rfl, H1.out, evs_nil _ _⟩
  · have hX := HX.out
    clear HX
    rw [if_neg (show ¬ q.st = 0 by rw [HT.out]; decide), if_neg (show ¬ q.st = 1 by rw [HT.out]; decide), if_neg (show ¬ q.st = 2 by rw [HT.out]; decide), if_pos HT.out] at hX
    have HX := hid hX
    clear hX
    go_enter Tryz.func30, Tryz.ntmps30
    go_wp2_with fail
    refine (qrecover_calls g gr q c _ H0.out.node HS.out.lo HS.out.hi).mono ?_
    rintro y w1 ⟨rfl, h1⟩
    have hrr : (q.recover c).r = q.r := by unfold Q7.recover; split; · rfl
                                           split; · rfl
                                           split <;> rfl
    have H1 := hid (show QP w w1 g gr gr (q.recover c) from ⟨h1.blk, by rw [hrr]; exact H0.out.rd.grown h1.grown (by simp only [ne_eq, Option.some.injEq]; omega), H0.out.g2.own h1.grown (fun i e => by injection e with e; exact .inl e.symm), .inl rfl⟩)
    clear h1 hrr
    go_wp2_with fail
    go_ret
    rw [HX.out]
    exact ⟨_, _, rfl, H1.out, evs_nil _ _⟩
  · have hX := HX.out
    clear HX
    rw [if_neg (show ¬ q.st = 0 by rw [HT.out]; decide), if_neg (show ¬ q.st = 1 by rw [HT.out]; decide), if_neg (show ¬ q.st = 2 by rw [HT.out]; decide), if_neg (show ¬ q.st = 3 by rw [HT.out]; decide), if_pos HT.out] at hX
    cases c
    · rw [if_neg (by decide)] at hX
      have HX := hid hX
      clear hX
      go_enter Tryz.func30, Tryz.ntmps30
      go_wp2_with fail
      refine (qbegin_calls g gr q false _ H0.out.node H0.out.rd HS.out.wf).mono ?_
      rintro y w1 ⟨v, gr', rfl, h1, h2⟩
      have H1 := hid h1
      have H2 := hid h2
      clear h1 h2
      go_wp2_with fail
      go_ret
      rw [HX.out]
      exact ⟨_, _, rfl, H1.out, H2.out⟩
    · rw [if_pos rfl] at hX
      have ew : IntKind.i64.wrap (q.left - 1) = q.left - 1 := by have := HS.out.lo; have := HS.out.hi; rw [IntKind.wrap_i64]; omega
      have h1 : QP w (w.setCell ⟨g, 1, none⟩ (.int .i64 (q.left - 1))) g gr gr { q with left := q.left - 1 } := H0.out.set 1 _ rfl rfl
      have d0 := (hq h1.node).st
      have d1 := (hq h1.node).left
      have g0 := h1.node.frozen 0
      have g1 := h1.node.frozen 1
      have g2 := h1.node.frozen 2
      simp only at d0 d1
      rw [HT.out] at d0
      have H1 := hid h1
      clear h1
      by_cases hl : q.left - 1 = 0
      · rw [if_pos hl] at hX
        have e1 : (q.left - 1 = 0) = True := eq_true hl
        have e2 : (q.left - 1 == 0) = true := by simp [hl]
        have HX := hid hX
        clear hX hl
        have HR := hid (show QP w ((w.setCell ⟨g, 1, none⟩ (.int .i64 (q.left - 1))).setCell ⟨g, 0, none⟩ (.int .i64 0)) g gr gr { q with st := 0, left := q.left - 1 } from
          H1.out.set (q' := { q with left := q.left - 1, st := 0 }) 0 _ rfl rfl)
        go_enter Tryz.func30, Tryz.ntmps30
        go_wp2_with fail
        go_ret
        rw [HX.out]
        exact ⟨_, _, rfl, HR.out, evs_nil _ _⟩
      · rw [if_neg hl] at hX
        have e1 : (q.left - 1 = 0) = False := eq_false hl
        have e2 : (q.left - 1 == 0) = false := by simp [hl]
        have HX := hid hX
        clear hX hl
        go_enter Tryz.func30, Tryz.ntmps30
        go_wp2_with fail
        go_ret
        rw [HX.out]
        exact ⟨_, _, rfl, H1.out, evs_nil _ _⟩
  · have hX := HX.out
    clear HX
    rw [if_neg (show ¬ q.st = 0 by rw [HT.out]; decide), if_neg (show ¬ q.st = 1 by rw [HT.out]; decide), if_neg (show ¬ q.st = 2 by rw [HT.out]; decide), if_neg (show ¬ q.st = 3 by rw [HT.out]; decide), if_neg (show ¬ q.st = 4 by rw [HT.out]; decide)] at hX
    have HX := hid hX
    clear hX
    go_enter Tryz.func30, Tryz.ntmps30
    go_wp2_with fail
    go_ret
    rw [HX.out]
    exact ⟨_, _, rfl, H0.out, evs_nil _ _⟩
end Go.Proofs.YtpkpnaedacefaaaGreat.MacR
namespace Go.Proofs.YtpkpnaedacefaaaGreat.MacR
set_option linter.unusedVariables false
set_option linter.unusedSimpArgs false
open Go Go.RowKit Go.Proofs.YtpkpnaedacefaaaGreat.Lib Go.Proofs.YtpkpnaedacefaaaGreat.Bits Go.Proofs.YtpkpnaedacefaaaGreat.BitsW Go.Proofs.YtpkpnaedacefaaaGreat.StuffW Go.Proofs.YtpkpnaedacefaaaGreat.Frame Go.Proofs.YtpkpnaedacefaaaGreat.FrameW Go.Proofs.YtpkpnaedacefaaaGreat.Code Go.Proofs.YtpkpnaedacefaaaGreat.CodeW Go.Proofs.YtpkpnaedacefaaaGreat.CodeL Go.Proofs.YtpkpnaedacefaaaGreat.Mac Go.Proofs.YtpkpnaedacefaaaGreat.MacW Go.Proofs.YtpkpnaedacefaaaGreat.RefW Go.Proofs.YtpkpnaedacefaaaGreat.PrintMore
attribute [local go_sem] max2_int min2_int max_two min_two
set_option maxRecDepth 100000 in
set_option maxHeartbeats 6400000 in
theorem qnew_calls (w : World) :
    Calls Tryz.prog 21 #[] w fun e w' => ∃ g gr, e = .returned (.pointer (some ⟨g, 0, none⟩)) ∧ w.heap.size ≤ g ∧ w.heap.size ≤ gr ∧ Blk w' g QT (qc Q7.new gr) ∧ Blk w' gr RT (R3.cells Q7.new.r) ∧ Below w.heap.size w w' := by
  have HRD := hid (fun W => rnew_calls W)
  go_enter Tryz.func21, Tryz.ntmps21
  go_wp2_with fail
  refine (HRD.out _).mono ?_
  rintro y w2 ⟨gr', rfl, hgr, hrd, hb2⟩
  have HGR := hid hgr
  have HRD2 := hid hrd
  have HB2 := hid hb2
  clear hgr hrd hb2 HRD
  go_wp2_with fail
  go_ret
  exact ⟨w2.heap.size, gr', rfl, HB2.out.size, HGR.out, Blk.new w2 (qc Q7.new gr') QT, HRD2.out.alloc _, HB2.out.alloc HB2.out.size _⟩
end Go.Proofs.YtpkpnaedacefaaaGreat.MacR
namespace Go.Proofs.YtpkpnaedacefaaaGreat.MacR
set_option linter.unusedVariables false
set_option linter.unusedSimpArgs false
open Go Go.RowKit Go.Proofs.YtpkpnaedacefaaaGreat.Lib Go.Proofs.YtpkpnaedacefaaaGreat.Bits Go.Proofs.YtpkpnaedacefaaaGreat.BitsW Go.Proofs.YtpkpnaedacefaaaGreat.StuffW Go.Proofs.YtpkpnaedacefaaaGreat.Frame Go.Proofs.YtpkpnaedacefaaaGreat.FrameW Go.Proofs.YtpkpnaedacefaaaGreat.Code Go.Proofs.YtpkpnaedacefaaaGreat.CodeW Go.Proofs.YtpkpnaedacefaaaGreat.CodeL Go.Proofs.YtpkpnaedacefaaaGreat.Mac Go.Proofs.YtpkpnaedacefaaaGreat.MacW Go.Proofs.YtpkpnaedacefaaaGreat.RefW Go.Proofs.YtpkpnaedacefaaaGreat.PrintMore
attribute [local go_sem] max2_int min2_int max_two min_two
attribute [local go_sem high] eqA24
theorem eqA34 (d : Nat) (w : World) (k k' : Int) (x0 y0 : Bool) (x1 y1 : Int) (x2 y2 : Bool) (x3 y3 : ByteArray) (e e' : Int) :
    (Op.equalIn (d + 3) 60 (.agg #[.int .i64 k, .bool x0, .int .u32 x1, .bool x2, .string x3, .int .i64 e]) (.agg #[.int .i64 k', .bool y0, .int .u32 y1, .bool y2, .string y3, .int .i64 e'])).run Tryz.prog w = .ok (k == k' && ((x0 == y0 && (x1 == y1 && (x2 == y2 && (x3.toList == y3.toList)))) && (e == e'))) w := by
  refine eqA_of Tryz.underlying60 (by kernel_rfl) ?_
  refine eqf_cons (by rfl) (by go_simp; rfl) (by go_simp; rfl) (by go_simp) ?_
  refine eqf_cons (by rfl) (by go_simp; rfl) (by go_simp; rfl) (by go_simp) ?_
  exact eqf_last (by rfl) (by go_simp; rfl) (by go_simp; rfl) (by go_simp)
attribute [local go_sem high] eqA34
theorem ec_len (x : Ev) : (ec x).length = 6 := rfl
theorem ec_at {L : List Ev} {j : Nat} {x : Ev} (h : L[j]? = some x) (i : Nat) (hi : i < 6) : (L.flatMap ec)[j * 6 + i]? = (ec x)[i]? := by
  induction L generalizing j with
  | nil => simp at h
  | cons y L ih =>
    rw [List.flatMap_cons]
    cases j with
    | zero =>
      simp only [List.getElem?_cons_zero, Option.some.injEq] at h
      subst h
      rw [Nat.zero_mul, Nat.zero_add, List.getElem?_append_left (by rw [ec_len]; exact hi)]
    | succ j =>
      simp only [List.getElem?_cons_succ] at h
      rw [List.getElem?_append_right (by rw [ec_len]; omega), ec_len, show (j + 1) * 6 + i - 6 = j * 6 + i by omega]
      exact ih h
/-- Two rows of events, alike. -/
structure Two (w W : World) (a1 a2 : Option Addr) (L : List Ev) : Prop where
  one : ∀ j x, L[j]? = some x → ∃ g, a1 = some ⟨g, 0, none⟩ ∧ ∀ i, i < 6 → W.cell? ⟨g, j * 6 + i, none⟩ = (ec x)[i]?
  two : ∀ j x, L[j]? = some x → ∃ g, a2 = some ⟨g, 0, none⟩ ∧ ∀ i, i < 6 → W.cell? ⟨g, j * 6 + i, none⟩ = (ec x)[i]?
  below : Below w.heap.size w W
theorem Two.drew {w W : World} {a1 a2 : Option Addr} {L : List Ev} (h : Two w W a1 a2 L) : Two w W.drew a1 a2 L := ⟨h.one, h.two, h.below.drew⟩
end Go.Proofs.YtpkpnaedacefaaaGreat.MacR
namespace Go.Proofs.YtpkpnaedacefaaaGreat.MacR
set_option linter.unusedVariables false
set_option linter.unusedSimpArgs false
open Go Go.RowKit Go.Proofs.YtpkpnaedacefaaaGreat.Lib Go.Proofs.YtpkpnaedacefaaaGreat.Bits Go.Proofs.YtpkpnaedacefaaaGreat.BitsW Go.Proofs.YtpkpnaedacefaaaGreat.StuffW Go.Proofs.YtpkpnaedacefaaaGreat.Frame Go.Proofs.YtpkpnaedacefaaaGreat.FrameW Go.Proofs.YtpkpnaedacefaaaGreat.Code Go.Proofs.YtpkpnaedacefaaaGreat.CodeW Go.Proofs.YtpkpnaedacefaaaGreat.CodeL Go.Proofs.YtpkpnaedacefaaaGreat.Mac Go.Proofs.YtpkpnaedacefaaaGreat.MacW Go.Proofs.YtpkpnaedacefaaaGreat.MacL Go.Proofs.YtpkpnaedacefaaaGreat.RefW Go.Proofs.YtpkpnaedacefaaaGreat.PrintMore
structure QI (q : Q7) (k : Nat) : Prop where
  lo : 0 ≤ q.left
  hi : q.left ≤ 7
  len : q.out.length ≤ 1000
  arb : q.arb ≤ 1000
  wf : q.f.wf
  bd : R3.Bd q.r k
theorem bd_mono {q : R3} {k k' : Nat} (h : R3.Bd q k) (hk : k ≤ k') : R3.Bd q k' := ⟨Nat.le_trans h.S hk, Nat.le_trans h.plain hk, Nat.le_trans h.run hk, by have := h.tail; omega, h.want⟩
theorem QI.mono {q : Q7} {k k' : Nat} (h : QI q k) (hk : k ≤ k') : QI q k' := ⟨h.lo, h.hi, h.len, h.arb, h.wf, bd_mono h.bd hk⟩
theorem code_le1000 {f : Fm} (hw : f.wf) : f.code.length ≤ 1000 := by
  cases h : f.ok
  · unfold Fm.code; rw [if_neg (by rw [h]; decide)]; exact Nat.zero_le _
  · have hg : f.Good := ⟨h, hw⟩
    have := (f_len hg).2
    have := ack_len f
    rw [code_len hg]; omega
theorem arb_le1000 (f : Fm) : f.arb ≤ 1000 := by
  have h := arb_le f
  have := stuff_le (if f.ok then arbL f.e f.i.toNat f.r else [])
  unfold Fm.arb
  omega
theorem wf_zero : Fm.zero.wf := by unfold Fm.wf; decide
theorem qi_new : QI Q7.new 0 := ⟨by decide, by decide, Nat.zero_le _, Nat.zero_le _, wf_zero, new_bd⟩
theorem qi_ask {q : Q7} {k : Nat} (h : QI q k) {f : Fm} (hf : f.wf) : QI (q.ask f).1 k := by
  unfold Q7.ask
  split
  · exact h
  · split
    · exact h
    · split
      · exact h
      · exact ⟨h.lo, h.hi, h.len, h.arb, hf, h.bd⟩
theorem qi_cancel {q : Q7} {k : Nat} (h : QI q k) : QI q.cancel.1 k := ⟨h.lo, h.hi, h.len, h.arb, h.wf, h.bd⟩
theorem qi_bad {q : Q7} {k : Nat} (h : QI q k) (x : Ev) : QI (q.bad x).1 k := by
  unfold Q7.bad
  split
  · exact ⟨by show (0 : Int) ≤ 6; decide, by show (6 : Int) ≤ 7; decide, h.len, h.arb, h.wf, h.bd⟩
  · exact ⟨by show (0 : Int) ≤ 6; decide, by show (6 : Int) ≤ 7; decide, h.len, h.arb, h.wf, h.bd⟩
theorem qi_pause {q : Q7} {k : Nat} (h : QI q k) : QI q.pause k := ⟨by show (0 : Int) ≤ 3; decide, by show (3 : Int) ≤ 7; decide, h.len, h.arb, h.wf, h.bd⟩
theorem qi_hearing {q : Q7} {k : Nat} (h : QI q k) (c : Bool) : QI (q.hearing c).1 (k + 1) := by
  have hb := h.bd.next c
  unfold Q7.hearing
  split
  · exact qi_pause (h.mono (Nat.le_succ _))
  · split
    · exact qi_bad (q := { q with r := (q.r.next c).1, got := gotK q.sent q.got false }) ⟨h.lo, h.hi, h.len, h.arb, h.wf, hb⟩ _
    · split
      · exact ⟨h.lo, h.hi, h.len, h.arb, h.wf, hb⟩
      · exact ⟨h.lo, h.hi, h.len, h.arb, h.wf, hb⟩
theorem qi_sending {q : Q7} {k : Nat} (h : QI q k) (c : Bool) : QI (q.sending c).1 (k + 1) := by
  have hb := h.bd.next c
  have h' := h.mono (Nat.le_succ k)
  unfold Q7.sending
  split
  · exact qi_hearing (q := { q with at_ := q.at_ + 1, sender := false }) ⟨h.lo, h.hi, h.len, h.arb, h.wf, h.bd⟩ c
  · split
    · exact qi_bad (q := { q with at_ := q.at_ + 1, sent := sentK q.sent q.got false }) ⟨h'.lo, h'.hi, h'.len, h'.arb, h'.wf, h'.bd⟩ _
    · split
      · exact qi_bad (q := { q with at_ := q.at_ + 1, sent := sentK q.sent q.got false }) ⟨h'.lo, h'.hi, h'.len, h'.arb, h'.wf, h'.bd⟩ _
      · split
        · exact qi_pause (q := { q with at_ := q.at_ + 1, r := (q.r.next c).1, sent := sentK q.sent q.got true, sender := false }) ⟨h.lo, h.hi, h.len, h.arb, h.wf, hb⟩
        · exact ⟨h.lo, h.hi, h.len, h.arb, h.wf, hb⟩
theorem qi_begin {q : Q7} {k : Nat} (h : QI q k) (b : Bool) : QI (q.begin b).1 (k + 1) := by
  have hb : R3.Bd (R3.new.next false).1 (k + 1) := bd_mono (new_bd.next false) (by omega)
  unfold Q7.begin
  split
  · exact ⟨h.lo, h.hi, code_le1000 h.wf, arb_le1000 _, h.wf, hb⟩
  · exact ⟨h.lo, h.hi, h.len, h.arb, h.wf, hb⟩
theorem qi_left {q : Q7} {k : Nat} (h : QI q k) (h1 : 1 ≤ q.left) : QI { q with left := q.left - 1 } k := ⟨by show 0 ≤ q.left - 1; omega, by have := h.hi; show q.left - 1 ≤ 7; omega, h.len, h.arb, h.wf, h.bd⟩
theorem qi_recover {q : Q7} {k : Nat} (h : QI q k) (h1 : q.first = false → 1 ≤ q.left) (c : Bool) : QI (q.recover c) k := by
  unfold Q7.recover
  split
  · exact ⟨h.lo, h.hi, h.len, h.arb, h.wf, h.bd⟩
  · rename_i hf
    have h2 := qi_left h (h1 (by simpa using hf))
    split
    · exact ⟨by show (0 : Int) ≤ 7; decide, by show (7 : Int) ≤ 7; decide, h.len, h.arb, h.wf, h.bd⟩
    · split
      · exact qi_pause h2
      · exact h2
theorem qi_sample {m : M} {q : Q7} {k : Nat} (hs : Sim m q) (h : QI q k) (c : Bool) : QI (q.sample c).1 (k + 1) := by
  have h' := h.mono (Nat.le_succ k)
  have l2 : q.st = 2 → 1 ≤ q.left := by cases hs <;> intro e <;> first | omega | (simp_all; done)
  have l4 : q.st = 4 → 1 ≤ q.left := by cases hs <;> intro e <;> first | omega | (simp_all; done)
  have l3 : q.st = 3 → q.first = false → 1 ≤ q.left := by cases hs <;> intro e e2 <;> first | omega | (simp_all; done)
  unfold Q7.sample
  split
  · split
    · exact h'
    · exact qi_begin h _
  · split
    · split
      · exact qi_sending h c
      · exact qi_hearing h c
    · split
      · rename_i e
        have h2 := qi_left h' (l2 e)
        split
        · exact ⟨by show (0 : Int) ≤ 7; decide, by show (7 : Int) ≤ 7; decide, h'.len, h'.arb, h'.wf, h'.bd⟩
        · exact h2
      · split
        · rename_i e
          exact qi_recover h' (l3 e) c
        · split
          · rename_i e
            have h2 := qi_left h' (l4 e)
            split
            · split
              · exact ⟨h2.lo, h2.hi, h2.len, h2.arb, h2.wf, h2.bd⟩
              · exact h2
            · exact qi_begin h _
          · exact h'
theorem qs_of {m : M} {q : Q7} {k : Nat} (hf : Fine m) (hs : Sim m q) (h : QI q k) (hk : k ≤ 8000) : QS q := by
  have hb := h.bd
  refine ⟨⟨by have := hb.S; omega, by have := hb.plain; omega, by have := hb.run; omega, by have := hb.tail; omega, by have := hb.want; omega⟩, by have := h.lo; omega, by have := h.hi; omega, ?_, h.len, h.arb, h.wf, ?_⟩
  · intro e1 e2
    cases hs with
    | sends b h1 h' o s k t out at_ arb r l =>
      have ho := hf.on o
      rw [out, at_]
      have hg := hf.good ho.w
      rw [ho.bits, code_len hg]
      exact ho.pos
    | _ => simp_all
  · cases hs <;> simp [*]
/-- Both nodes in memory, going together. -/
structure PB (w W : World) (g h hr : Nat) (m : M) (q : Q7) (k : Nat) : Prop where
  nf : Nf w W g m
  qn : Blk W h QT (qc q hr)
  qr : Blk W hr RT (R3.cells q.r)
  lh : w.heap.size ≤ h
  lr : w.heap.size ≤ hr
  sim : Sim m q
  qi : QI q k
theorem PB.below {w W : World} {g h hr : Nat} {m : M} {q : Q7} {k : Nat} (H : PB w W g h hr m q k) : Below w.heap.size w W := H.nf.nd.below
theorem PB.ne {w W : World} {g h hr : Nat} {m : M} {q : Q7} {k : Nat} (H : PB w W g h hr m q k) : h ≠ g ∧ hr ≠ g := ⟨H.qn.ne H.nf.nd.blk (by decide), H.qr.ne H.nf.nd.blk (by decide)⟩
theorem PB.later {w W W' : World} {g h hr : Nat} {m : M} {q : Q7} {k : Nat} (H : PB w W g h hr m q k) (b : Below W.heap.size W W') : PB w W' g h hr m q k :=
  ⟨H.nf.later b, H.qn.below b, H.qr.below b, H.lh, H.lr, H.sim, H.qi⟩
theorem PB.drew {w W : World} {g h hr : Nat} {m : M} {q : Q7} {k : Nat} (H : PB w W g h hr m q k) : PB w W.drew g h hr m q k := ⟨H.nf.drew, H.qn.drew, H.qr.drew, H.lh, H.lr, H.sim, H.qi⟩
theorem below_g2 {w W W' : World} {h hr : Nat} (b : Below w.heap.size w W) (k : G2 W W' h hr) (lh : w.heap.size ≤ h) (lr : w.heap.size ≤ hr) : Below w.heap.size w W' :=
  ⟨k.os.trans b.os, k.tape.trans b.tape, k.output.trans b.output, Nat.le_trans b.size k.size, fun i hi => (k.block i (Nat.lt_of_lt_of_le hi b.size) (by omega) (by omega)).trans (b.block i hi)⟩
theorem blk_g2 {W W' : World} {p h hr : Nat} {T : TypeId} {cs : List Value} (b : Blk W p T cs) (k : G2 W W' h hr) (h1 : p ≠ h) (h2 : p ≠ hr) : Blk W' p T cs := (k.block p b.lt h1 h2).trans b
theorem nf_g2 {w W W' : World} {g h hr : Nat} {m : M} (H : Nf w W g m) (k : G2 W W' h hr) (lh : w.heap.size ≤ h) (lr : w.heap.size ≤ hr) (h1 : h ≠ g) (h2 : hr ≠ g) : Nf w W' g m :=
  ⟨⟨blk_g2 H.nd.blk k (fun e => h1 e.symm) (fun e => h2 e.symm), below_g2 H.nd.below k lh lr, H.nd.le⟩, H.fine⟩
/-- The one has gone on, the other not yet. -/
structure PH (w W : World) (g h hr : Nat) (m : M) (q : Q7) : Prop where
  nf : Nf w W g m
  qn : Blk W h QT (qc q hr)
  qr : Blk W hr RT (R3.cells q.r)
  lh : w.heap.size ≤ h
  lr : w.heap.size ≤ hr
theorem PB.ph {w W : World} {g h hr : Nat} {m : M} {q : Q7} {k : Nat} (H : PB w W g h hr m q k) : PH w W g h hr m q := ⟨H.nf, H.qn, H.qr, H.lh, H.lr⟩
theorem PH.ne {w W : World} {g h hr : Nat} {m : M} {q : Q7} (H : PH w W g h hr m q) : h ≠ g ∧ hr ≠ g := ⟨H.qn.ne H.nf.nd.blk (by decide), H.qr.ne H.nf.nd.blk (by decide)⟩
theorem PH.drew {w W : World} {g h hr : Nat} {m : M} {q : Q7} (H : PH w W g h hr m q) : PH w W.drew g h hr m q := ⟨H.nf.drew, H.qn.drew, H.qr.drew, H.lh, H.lr⟩
theorem PH.later {w W W' : World} {g h hr : Nat} {m : M} {q : Q7} (H : PH w W g h hr m q) (b : Below W.heap.size W W') : PH w W' g h hr m q := ⟨H.nf.later b, H.qn.below b, H.qr.below b, H.lh, H.lr⟩
theorem PH.mac {w W W' : World} {g h hr : Nat} {m m' : M} {q : Q7} (H : PH w W g h hr m q) (n : Nf w W' g m') (k : W.grownBy W' (some g)) : PH w W' g h hr m' q :=
  ⟨n, H.qn.grown k (by simpa using H.ne.1), H.qr.grown k (by simpa using H.ne.2), H.lh, H.lr⟩
theorem PH.ref {w W W' : World} {g h hr hr' : Nat} {m : M} {q q' : Q7} (H : PH w W g h hr m q) (k : QP W W' h hr hr' q') : PH w W' g h hr' m q' :=
  ⟨nf_g2 H.nf k.g2 H.lh H.lr H.ne.1 H.ne.2, k.node, k.rd, H.lh, by
    rcases k.new with e | e
    · rw [e]; exact H.lr
    · have := H.nf.nd.below.size; omega⟩
theorem PH.pb {w W : World} {g h hr : Nat} {m : M} {q : Q7} {k : Nat} (H : PH w W g h hr m q) (s : Sim m q) (i : QI q k) : PB w W g h hr m q k := ⟨H.nf, H.qn, H.qr, H.lh, H.lr, s, i⟩
theorem qp_here {W W' : World} {h hr : Nat} {q q' : Q7} (b : Blk W hr RT (R3.cells q.r)) (hn : hr ≠ h) (k : QH W W' h hr q') (e : q'.r = q.r) : QP W W' h hr hr q' :=
  ⟨k.blk, by rw [e]; exact b.grown k.grown (by simpa using hn), (G2.refl W h hr).own k.grown (fun i e => by injection e with e; exact .inl e.symm), .inl rfl⟩
end Go.Proofs.YtpkpnaedacefaaaGreat.MacR
namespace Go.Proofs.YtpkpnaedacefaaaGreat.Lib
set_option linter.unusedVariables false
set_option linter.unusedSimpArgs false
open Go Go.RowKit
/-- Whatever has come up, what it waits for has come up. -/
def Closed (ops : Array Oper) (b : Nat → Bool) : Prop := ∀ i o, ops[i]? = some o → b i = true → ∀ j ∈ needsOf o, b j = true
def CS (ops : Array Oper) (T : (Nat → Bool) → (Nat → Nat) → World → Prop) : (Nat → Bool) → (Nat → Nat) → World → Prop := fun b g w => Closed ops b ∧ T b g w
theorem closed_none (ops : Array Oper) : Closed ops (fun _ => false) := fun _ _ _ h => by cases h
theorem closed_up {ops : Array Oper} {b : Nat → Bool} {i : Nat} {o : Oper} (h : Closed ops b) (ho : ops[i]? = some o) (hj : ∀ j ∈ needsOf o, b j = true) : Closed ops (up b i) := by
  have k : ∀ j, b j = true → up b i j = true := fun j e => by
    by_cases hji : j = i
    · rw [hji]; exact up_at _ _
    · rw [up_of_ne hji]; exact e
  intro n p hp hn j hjn
  by_cases hni : n = i
  · subst hni
    rw [ho] at hp
    injection hp with hp
    subst hp
    exact k j (hj j hjn)
  · rw [up_of_ne hni] at hn
    exact k j (h n p hp hn j hjn)
/-- Is j before i? -/
def reach (ops : Array Oper) : Nat → Nat → Nat → Bool
  | 0, _, _ => false
  | f + 1, i, j => match ops[i]? with
    | none => false
    | some o => (needsOf o).any fun k => k == j || reach ops f k j
theorem closed_reach {ops : Array Oper} {b : Nat → Bool} (h : Closed ops b) : ∀ (f i j : Nat), reach ops f i j = true → b i = true → b j = true
  | 0, _, _, hr, _ => by cases hr
  | f + 1, i, j, hr, hb => by
    unfold reach at hr
    split at hr
    · cases hr
    · rename_i o ho
      obtain ⟨k, hk, hkj⟩ := List.any_eq_true.1 hr
      have hbk := h i o ho hb k hk
      rcases (Bool.or_eq_true _ _).mp hkj with e | e
      · have : k = j := by simpa using e
        rw [← this]; exact hbk
      · exact closed_reach h f k j e hbk
section
variable {P : Program} {ops : Array Oper} {T : (Nat → Bool) → (Nat → Nat) → World → Prop} {Fin : ((Nat → Nat) → Act) → Prop} {i : Nat} {o : Oper} {rest : List Oper} {a : (Nat → Nat) → Act}
theorem c_pure (ho : ops[i]? = some o) (v : Value) (hw : ∀ g, Region.wanted o (yielded ops (a g).tmps) = true) (hT : ∀ b g w, T b g w → T (up b i) g w)
    (h : ∀ b g w, Closed ops b → T b g w → (∀ j ∈ needsOf o, b j = true) → (execOp (a g).eval o).run P w = .ok (.value v) w)
    (hr : TextRun P ops (CS ops T) Fin (i + 1) rest (fun g => (a g).put o.dst v)) : TextRun P ops (CS ops T) Fin i (o :: rest) a :=
  ⟨fun _ => v, hangs_const, fun b g w hs hb hj _ => .inl ⟨hw g, by
    unfold Oper.wp
    rw [h b g w hs.1 hs.2 hj]
    exact ⟨g i, rfl, by rw [upd_same]; exact ⟨closed_up hs.1 ho hj, hT b g w hs.2⟩⟩⟩, hr⟩
theorem c_skip (ho : ops[i]? = some o) (hw : ∀ g, Region.wanted o (yielded ops (a g).tmps) = false) (hT : ∀ b g w, T b g w → T (up b i) g w)
    (hr : TextRun P ops (CS ops T) Fin (i + 1) rest (fun g => (a g).put o.dst undef)) : TextRun P ops (CS ops T) Fin i (o :: rest) a :=
  ⟨fun _ => undef, hangs_const, fun b g w hs _ hj _ => .inr ⟨hw g, rfl, ⟨closed_up hs.1 ho hj, hT b g w hs.2⟩⟩, hr⟩
theorem c_call (ho : ops[i]? = some o) {f : FuncId} (args : (Nat → Nat) → Array Value) (v : Value) (hw : ∀ g, Region.wanted o (yielded ops (a g).tmps) = true)
    (he : ∀ b g w, T b g w → (∀ j ∈ needsOf o, b j = true) → (execOp (a g).eval o).run P w = .ok (.enter f (args g)) w)
    (hc : ∀ b g w, Closed ops b → T b g w → b i = false → (∀ j ∈ needsOf o, b j = true) → Calls P f (args g) w fun e w' => e = .returned v ∧ T (up b i) g w')
    (hr : TextRun P ops (CS ops T) Fin (i + 1) rest (fun g => (a g).put o.dst v)) : TextRun P ops (CS ops T) Fin i (o :: rest) a :=
  ⟨fun _ => v, hangs_const, fun b g w hs hb hj _ => .inl ⟨hw g, by
    unfold Oper.wp
    rw [he b g w hs.2 hj]
    refine Calls.mono (hc b g w hs.1 hs.2 hb hj) (fun e w' h => ?_)
    obtain ⟨rfl, h2⟩ := h
    exact ⟨g i, rfl, by rw [upd_same]; exact ⟨closed_up hs.1 ho hj, h2⟩⟩⟩, hr⟩
theorem c_callN (ho : ops[i]? = some o) {f : FuncId} (args : Array Value) (v : Nat → Value) (hw : ∀ g, Region.wanted o (yielded ops (a g).tmps) = true)
    (he : ∀ b g w, T b g w → (∀ j ∈ needsOf o, b j = true) → (execOp (a g).eval o).run P w = .ok (.enter f args) w)
    (hc : ∀ b g w, Closed ops b → T b g w → b i = false → (∀ j ∈ needsOf o, b j = true) → Calls P f args w fun e w' => ∃ n, e = .returned (v n) ∧ T (up b i) (upd g i n) w')
    (hr : TextRun P ops (CS ops T) Fin (i + 1) rest (fun g => (a g).put o.dst (v (g i)))) : TextRun P ops (CS ops T) Fin i (o :: rest) a :=
  ⟨fun g => v (g i), fun g g' hg => by simp only; rw [hg i (.inl rfl)], fun b g w hs hb hj _ => .inl ⟨hw g, by
    unfold Oper.wp
    rw [he b g w hs.2 hj]
    refine Calls.mono (hc b g w hs.1 hs.2 hb hj) (fun e w' h => ?_)
    obtain ⟨n, rfl, h2⟩ := h
    exact ⟨n, by simp [upd], ⟨closed_up hs.1 ho hj, h2⟩⟩⟩, hr⟩
theorem region_textC {Q : Exit → Act → World → Prop} {id : Nat} {a : Act} {w : World} {l : List Oper} (hm : P.follows .mixedOrders = true) (hok : textOk l.toArray = true) (T : (Nat → Bool) → (Nat → Nat) → World → Prop) (hT : T (fun _ => false) (fun _ => 0) w.drew)
    (h : TextRun P l.toArray (CS l.toArray T) (fun a' => ∀ b g w', (∀ j, j < l.length → b j = true) → CS l.toArray T b g w' → Q .normal (a' g) w') 0 l (fun _ => a)) : (Code.region id l.toArray true).wp P Q a w :=
  region_text hm hok (CS l.toArray T) ⟨closed_none _, hT⟩ h
end
end Go.Proofs.YtpkpnaedacefaaaGreat.Lib
namespace Go.Proofs.YtpkpnaedacefaaaGreat.MacR
set_option linter.unusedVariables false
set_option linter.unusedSimpArgs false
open Go Go.RowKit Go.Proofs.YtpkpnaedacefaaaGreat.Lib Go.Proofs.YtpkpnaedacefaaaGreat.Bits Go.Proofs.YtpkpnaedacefaaaGreat.BitsW Go.Proofs.YtpkpnaedacefaaaGreat.StuffW Go.Proofs.YtpkpnaedacefaaaGreat.Frame Go.Proofs.YtpkpnaedacefaaaGreat.FrameW Go.Proofs.YtpkpnaedacefaaaGreat.Code Go.Proofs.YtpkpnaedacefaaaGreat.CodeW Go.Proofs.YtpkpnaedacefaaaGreat.CodeL Go.Proofs.YtpkpnaedacefaaaGreat.Mac Go.Proofs.YtpkpnaedacefaaaGreat.MacW Go.Proofs.YtpkpnaedacefaaaGreat.MacL Go.Proofs.YtpkpnaedacefaaaGreat.RefW Go.Proofs.YtpkpnaedacefaaaGreat.PrintMore
theorem eqA39 (d : Nat) (w : World) (x y x' y' : Int) :
    (Op.equalIn (d + 2) 47 (.agg #[.int .i64 x, .int .i64 y]) (.agg #[.int .i64 x', .int .i64 y'])).run Tryz.prog w = .ok (x == x' && (y == y')) w := by
  refine eqA_of Tryz.underlying47 (by kernel_rfl) ?_
  refine eqf_cons (by rfl) (by go_simp; rfl) (by go_simp; rfl) (by go_simp) ?_
  exact eqf_last (by rfl) (by go_simp; rfl) (by go_simp; rfl) (by go_simp)
/-- Asked: the one's call is number 6, the other's number 13. -/
structure TA (w : World) (g h hr : Nat) (m m' : M) (q q' : Q7) (b : Nat → Bool) (_γ : Nat → Nat) (W : World) : Prop where
  ph : PH w W g h hr (if b 6 then m' else m) (if b 13 then q' else q)
theorem TA.up {w : World} {g h hr : Nat} {m m' : M} {q q' : Q7} {b : Nat → Bool} {γ : Nat → Nat} {W : World} (H : TA w g h hr m m' q q' b γ W) (i : Nat) (h1 : i ≠ 6) (h2 : i ≠ 13) : TA w g h hr m m' q q' (up b i) γ W := by
  have e1 : Lib.up b i 6 = b 6 := up_of_ne (fun e => h1 e.symm)
  have e2 : Lib.up b i 13 = b 13 := up_of_ne (fun e => h2 e.symm)
  exact ⟨by rw [e1, e2]; exact H.ph⟩
/-- Sampled: the one's call is number 7, the other's number 10. -/
structure TT (w : World) (g h : Nat) (m m' : M) (q q' : Q7) (L : List Ev) (b : Nat → Bool) (γ : Nat → Nat) (W : World) : Prop where
  ph : ∃ hr, PH w W g h hr (if b 7 then m' else m) (if b 10 then q' else q)
  ev1 : b 7 = true → Evs W 0 (decV L.length (γ 7)) L
  ev2 : b 10 = true → Evs W 0 (decV L.length (γ 10)) L
theorem TT.up {w : World} {g h : Nat} {m m' : M} {q q' : Q7} {L : List Ev} {b : Nat → Bool} {γ : Nat → Nat} {W : World} (H : TT w g h m m' q q' L b γ W) (i : Nat) (h1 : i ≠ 7) (h2 : i ≠ 10) : TT w g h m m' q q' L (up b i) γ W := by
  have e1 : Lib.up b i 7 = b 7 := up_of_ne (fun e => h1 e.symm)
  have e2 : Lib.up b i 10 = b 10 := up_of_ne (fun e => h2 e.symm)
  exact ⟨by rw [e1, e2]; exact H.ph, by rw [e1]; exact H.ev1, by rw [e2]; exact H.ev2⟩
theorem evs_mac {W W' : World} {g : Nat} {m : M} {v : Value} {L : List Ev} (h : Evs W 0 v L) (b : Blk W g MT (mc m)) (k : W.grownBy W' (some g)) : Evs W' 0 v L :=
  evs_kept h k (fun i e => by injection e with e; subst e; exact evs_ne h b (by decide))
theorem evs_ref {W W' : World} {p r r' : Nat} {q q' q'' : Q7} {v : Value} {L : List Ev} (h : Evs W 0 v L) (b1 : Blk W p QT (qc q r)) (b2 : Blk W r RT (R3.cells q.r)) (k : QP W W' p r r' q') : Evs W' 0 v L :=
  evs_g2 h k.g2 (fun i e => ⟨fun e2 => evs_ne h b1 (by decide) (e.trans (by rw [e2])), fun e2 => evs_ne h b2 (by decide) (e.trans (by rw [e2]))⟩)
theorem TT.later {w : World} {g h : Nat} {m m' : M} {q q' : Q7} {L : List Ev} {b : Nat → Bool} {γ : Nat → Nat} {W W' : World} (H : TT w g h m m' q q' L b γ W) (k : Below W.heap.size W W') : TT w g h m m' q q' L b γ W' := by
  obtain ⟨hr, hp⟩ := H.ph
  exact ⟨⟨hr, hp.later k⟩, fun e => evs_below (H.ev1 e) k, fun e => evs_below (H.ev2 e) k⟩
/-- The node drives. -/
theorem TT.drive {w : World} {g h : Nat} {m m' : M} {q q' : Q7} {L : List Ev} {b : Nat → Bool} {γ : Nat → Nat} {W : World} (H : TT w g h m m' q q' L b γ W) (h7 : b 7 = false) :
    Calls Tryz.prog 26 #[.pointer (some ⟨g, 0, none⟩)] W fun e w' => e = .returned (.int .u8 ((sg m.drive).toNat : Int)) ∧ TT w g h m m' q q' L (Lib.up b 1) γ w' := by
  obtain ⟨hr, hp⟩ := H.ph
  rw [h7, if_neg Bool.false_ne_true] at hp
  refine (nf_drive hp.nf).mono fun e w' ⟨h1, h2, h3⟩ => ⟨h1, TT.up (i := 1) ⟨⟨hr, ?_⟩, ?_, ?_⟩ (by decide) (by decide)⟩
  · rw [h7, if_neg Bool.false_ne_true]; exact hp.mac h2 h3
  · intro e; rw [h7] at e; cases e
  · intro e; exact evs_mac (H.ev2 e) hp.nf.nd.blk h3
/-- The node takes the bit. -/
theorem TT.one {w : World} {g h : Nat} {m : M} {q q' : Q7} {b : Nat → Bool} {γ : Nat → Nat} {W : World} (c : Bool) (x : Int) (hx : (x == 48) = !c) (H : TT w g h m (m.sample c).1 q q' (m.sample c).2 b γ W) (h7 : b 7 = false) :
    Calls Tryz.prog 28 #[.pointer (some ⟨g, 0, none⟩), .int .u8 x] W fun e w' => ∃ n, e = .returned (decV (m.sample c).2.length n) ∧ TT w g h m (m.sample c).1 q q' (m.sample c).2 (Lib.up b 7) (upd γ 7 n) w' := by
  obtain ⟨hr, hp⟩ := H.ph
  rw [h7, if_neg Bool.false_ne_true] at hp
  refine (nf_sample hp.nf c x hx).mono ?_
  rintro e w' ⟨v, rfl, h2, h3, h4⟩
  obtain ⟨n, rfl⟩ := decV_onto h3
  have e10 : Lib.up b 7 10 = b 10 := up_of_ne (by decide)
  have e7 : Lib.up b 7 7 = true := up_at _ _
  have eg : upd γ 7 n 7 = n := by simp [upd]
  have eg2 : upd γ 7 n 10 = γ 10 := by simp [upd]
  refine ⟨n, rfl, ⟨hr, ?_⟩, ?_, ?_⟩
  · rw [e7, e10, if_pos rfl]; exact hp.mac h2 h4
  · intro _; rw [eg]; exact evs_mono h3 (Nat.zero_le _)
  · rw [e10, eg2]; intro e; exact evs_mac (H.ev2 e) hp.nf.nd.blk h4
/-- The document's node takes it. -/
theorem TT.two {w : World} {g h : Nat} {m m' : M} {q : Q7} {b : Nat → Bool} {γ : Nat → Nat} {W : World} (c : Bool) (x : Int) (hx : (x == 48) = !c) (hq : QS q) (H : TT w g h m m' q (q.sample c).1 (q.sample c).2 b γ W) (h10 : b 10 = false) :
    Calls Tryz.prog 30 #[.pointer (some ⟨h, 0, none⟩), .int .u8 x] W fun e w' => ∃ n, e = .returned (decV (q.sample c).2.length n) ∧ TT w g h m m' q (q.sample c).1 (q.sample c).2 (Lib.up b 10) (upd γ 10 n) w' := by
  obtain ⟨hr, hp⟩ := H.ph
  rw [h10, if_neg Bool.false_ne_true] at hp
  refine (qsample_calls h hr q c x hx W hp.qn hp.qr hq).mono ?_
  rintro e w' ⟨v, hr', rfl, h2, h3⟩
  obtain ⟨n, rfl⟩ := decV_onto h3
  have e7 : Lib.up b 10 7 = b 7 := up_of_ne (by decide)
  have e10 : Lib.up b 10 10 = true := up_at _ _
  have eg : upd γ 10 n 10 = n := by simp [upd]
  have eg2 : upd γ 10 n 7 = γ 7 := by simp [upd]
  refine ⟨n, rfl, ⟨hr', ?_⟩, ?_, ?_⟩
  · rw [e7, e10, if_pos rfl]; exact hp.ref h2
  · rw [e7, eg2]; intro e; exact evs_ref (q'' := q) (H.ev1 e) hp.qn hp.qr h2
  · intro _; rw [eg]; exact evs_mono h3 (Nat.zero_le _)
theorem ask_r (q : Q7) (f : Fm) : (q.ask f).1.r = q.r := by
  unfold Q7.ask
  split
  · rfl
  · split
    · rfl
    · split <;> rfl
theorem TA.one {w : World} {g h hr : Nat} {m : M} {q q' : Q7} {b : Nat → Bool} {γ : Nat → Nat} {W : World} {f : Fm} {x : Int} (hf : f.wf) (hx : (m.ask f).2 = x) (H : TA w g h hr m (m.ask f).1 q q' b γ W) (h6 : b 6 = false) :
    Calls Tryz.prog 24 #[.pointer (some ⟨g, 0, none⟩), fv f] W fun e w' => e = .returned (.int .i64 x) ∧ TA w g h hr m (m.ask f).1 q q' (Lib.up b 6) γ w' := by
  have hp := H.ph
  rw [h6, if_neg Bool.false_ne_true] at hp
  refine (nf_ask hp.nf f hf).mono ?_
  rintro e w' ⟨h1, h2, h3⟩
  refine ⟨by rw [h1, hx], ⟨?_⟩⟩
  rw [up_at, up_of_ne (by decide), if_pos rfl]
  exact hp.mac h2 h3
theorem TA.two {w : World} {g h hr : Nat} {m m' : M} {q : Q7} {b : Nat → Bool} {γ : Nat → Nat} {W : World} {f : Fm} {x : Int} (hx : (q.ask f).2 = x) (H : TA w g h hr m m' q (q.ask f).1 b γ W) (h13 : b 13 = false) :
    Calls Tryz.prog 8 #[.pointer (some ⟨h, 0, none⟩), fv f] W fun e w' => e = .returned (.int .i64 x) ∧ TA w g h hr m m' q (q.ask f).1 (Lib.up b 13) γ w' := by
  have hp := H.ph
  rw [h13, if_neg Bool.false_ne_true] at hp
  refine (qask_calls h hr q f W hp.qn).mono ?_
  rintro e w' ⟨h1, h2⟩
  refine ⟨by rw [h1, hx], ⟨?_⟩⟩
  rw [up_at, up_of_ne (by decide), if_pos rfl]
  exact hp.ref (qp_here hp.qr (rd_ne hp.qn hp.qr) h2 (ask_r q f))
theorem TT.count {w : World} {g h : Nat} {m m' : M} {q q' : Q7} {L : List Ev} {b : Nat → Bool} {γ : Nat → Nat} {W : World} {s t : Int} (H : TT w g h m m' q q' L b γ W) (h7 : b 7 = true) (hs : m'.sent = s) (ht : m'.got = t) :
    Calls Tryz.prog 15 #[.pointer (some ⟨g, 0, none⟩)] W fun e w' => e = .returned (.agg #[.int .i64 s, .int .i64 t]) ∧ TT w g h m m' q q' L (Lib.up b 16) γ w' := by
  obtain ⟨hr, hp⟩ := H.ph
  rw [h7, if_pos rfl] at hp
  refine (nf_counts hp.nf).mono ?_
  rintro e w' ⟨h1, _, h3⟩
  exact ⟨by rw [h1, hs, ht], TT.up (H.later h3) 16 (by decide) (by decide)⟩
theorem TT.busy2 {w : World} {g h : Nat} {m m' : M} {q q' : Q7} {L : List Ev} {b : Nat → Bool} {γ : Nat → Nat} {W : World} {s : Bool} (H : TT w g h m m' q q' L b γ W) (h10 : b 10 = true) (hs : q'.busy = s) :
    Calls Tryz.prog 23 #[.pointer (some ⟨h, 0, none⟩)] W fun e w' => e = .returned (.bool s) ∧ TT w g h m m' q q' L (Lib.up b 27) γ w' := by
  obtain ⟨hr, hp⟩ := H.ph
  rw [h10, if_pos rfl] at hp
  refine (qbusy_calls h hr q' W hp.qn).mono ?_
  rintro e w' ⟨h1, rfl⟩
  exact ⟨by rw [h1, hs], TT.up H 27 (by decide) (by decide)⟩
theorem hearing_len2 (q : Q7) (c : Bool) : (q.hearing c).2.length ≤ 2 := by
  unfold Q7.hearing
  split
  · simp
  · split
    · unfold Q7.bad; split <;> simp
    · split <;> simp
theorem bad_len2 (q : Q7) (x : Ev) : (q.bad x).2.length ≤ 2 := by unfold Q7.bad; split <;> simp
theorem begin_len (q : Q7) (b : Bool) : (q.begin b).2.length ≤ 2 := by unfold Q7.begin; simp
theorem sample_len (q : Q7) (c : Bool) : (q.sample c).2.length ≤ 10 := by
  unfold Q7.sample
  split
  · split
    · simp
    · have := begin_len q q.has; omega
  · split
    · split
      · unfold Q7.sending
        split
        · have := hearing_len2 { q with at_ := q.at_ + 1, sender := false } c; simp only [List.length_cons]; omega
        · split
          · have := bad_len2 { q with at_ := q.at_ + 1, sent := sentK q.sent q.got false } ⟨4, q.f, 71⟩; omega
          · split
            · have := bad_len2 { q with at_ := q.at_ + 1, sent := sentK q.sent q.got false } ⟨4, q.f, 70⟩; omega
            · split <;> simp
      · have := hearing_len2 q c; omega
    · split
      · split <;> simp
      · split
        · simp
        · split
          · split
            · split <;> simp
            · have := begin_len q false; omega
          · simp
/-- All that both must agree on, the bit taken. -/
structure Agree (m m' : M) (q q' : Q7) (L : List Ev) : Prop where
  sent : m'.sent = q'.sent
  got : m'.got = q'.got
  busy : m'.waits = q'.busy
  idle : (m'.st == 0) = (q'.st == 0)
  len : L.length ≤ 10
theorem agree_sample {m : M} {q : Q7} (hf : Fine m) (h : Sim m q) (c : Bool) : Agree m (m.sample c).1 q (q.sample c).1 (q.sample c).2 := by
  have hs := (sim_sample hf h c).2
  exact ⟨hs.base.sent.symm, hs.base.got.symm, hs.base.busy.symm, hs.idle_iff, sample_len q c⟩
theorem TT.one' {w : World} {g h : Nat} {m m' : M} {q q' : Q7} {L : List Ev} {b : Nat → Bool} {γ : Nat → Nat} {W : World} {c : Bool} {x : Int} (hx : (x == 48) = !c) (e1 : (m.sample c).1 = m') (e2 : (m.sample c).2 = L) (H : TT w g h m m' q q' L b γ W) (h7 : b 7 = false) :
    Calls Tryz.prog 28 #[.pointer (some ⟨g, 0, none⟩), .int .u8 x] W fun e w' => ∃ n, e = .returned (decV L.length n) ∧ TT w g h m m' q q' L (Lib.up b 7) (upd γ 7 n) w' := by
  subst e1
  subst e2
  exact TT.one c x hx H h7
theorem TT.two' {w : World} {g h : Nat} {m m' : M} {q q' : Q7} {L : List Ev} {b : Nat → Bool} {γ : Nat → Nat} {W : World} {c : Bool} {x : Int} (hx : (x == 48) = !c) (hq : QS q) (e1 : (q.sample c).1 = q') (e2 : (q.sample c).2 = L) (H : TT w g h m m' q q' L b γ W) (h10 : b 10 = false) :
    Calls Tryz.prog 30 #[.pointer (some ⟨h, 0, none⟩), .int .u8 x] W fun e w' => ∃ n, e = .returned (decV L.length n) ∧ TT w g h m m' q q' L (Lib.up b 10) (upd γ 10 n) w' := by
  subst e1
  subst e2
  exact TT.two c x hx hq H h10
theorem PB.out {w W W' : World} {g h hr i : Nat} {m : M} {q : Q7} {k : Nat} (H : PB w W g h hr m q k) (b : W.grownBy W' (some i)) (hi : w.heap.size ≤ i) (h1 : i ≠ g) (h2 : i ≠ h) (h3 : i ≠ hr) : PB w W' g h hr m q k :=
  ⟨H.nf.far b (fun e => h1 e.symm) hi, H.qn.grown b (by simpa using fun e => h2 e.symm), H.qr.grown b (by simpa using fun e => h3 e.symm), H.lh, H.lr, H.sim, H.qi⟩
end Go.Proofs.YtpkpnaedacefaaaGreat.MacR
