/- The document's node on the wire (package ostinatoref7), walked: Busy, Cancel, Ask, pause, recover, bad. -/
import Derived.Test.YtpkpnaedacefaaaGreatRefMs
namespace Go.Proofs.YtpkpnaedacefaaaGreat.MacR
set_option linter.unusedVariables false
set_option linter.unusedSimpArgs false
open Go Go.RowKit Go.Proofs.YtpkpnaedacefaaaGreat.Lib Go.Proofs.YtpkpnaedacefaaaGreat.Bits Go.Proofs.YtpkpnaedacefaaaGreat.BitsW Go.Proofs.YtpkpnaedacefaaaGreat.StuffW Go.Proofs.YtpkpnaedacefaaaGreat.Frame Go.Proofs.YtpkpnaedacefaaaGreat.FrameW Go.Proofs.YtpkpnaedacefaaaGreat.Code Go.Proofs.YtpkpnaedacefaaaGreat.CodeW Go.Proofs.YtpkpnaedacefaaaGreat.CodeL Go.Proofs.YtpkpnaedacefaaaGreat.Mac Go.Proofs.YtpkpnaedacefaaaGreat.MacW Go.Proofs.YtpkpnaedacefaaaGreat.RefW Go.Proofs.YtpkpnaedacefaaaGreat.PrintMore
attribute [local go_sem] max2_int min2_int max_two min_two
abbrev QT : TypeId := 53
abbrev RT : TypeId := 93
/-- Its cells; the reader lies in a block of its own. -/
def qc (q : Q7) (gr : Nat) : List Value := [.int .i64 q.st, .int .i64 q.left, .bool q.first, .bool q.sender, .bool q.has, .bool q.f.e, .int .u32 q.f.i, .bool q.f.r, .string q.f.d, .string (B q.out), .int .i64 q.at_, .int .i64 q.arb, .pointer (some ⟨gr, 0, none⟩), .bool q.taken, .int .i64 q.sent, .int .i64 q.got]
abbrev QH (w W : World) (g gr : Nat) (q : Q7) : Prop := Here w W g QT (qc q gr)
structure Hq (W : World) (g gr : Nat) (q : Q7) : Prop where
  st : W.cell? ⟨g, 0, none⟩ = some (.int .i64 q.st)
  left : W.cell? ⟨g, 1, none⟩ = some (.int .i64 q.left)
  first : W.cell? ⟨g, 2, none⟩ = some (.bool q.first)
  sender : W.cell? ⟨g, 3, none⟩ = some (.bool q.sender)
  has : W.cell? ⟨g, 4, none⟩ = some (.bool q.has)
  fe : W.cell? ⟨g, 5, none⟩ = some (.bool q.f.e)
  fi : W.cell? ⟨g, 6, none⟩ = some (.int .u32 q.f.i)
  fr : W.cell? ⟨g, 7, none⟩ = some (.bool q.f.r)
  fd : W.cell? ⟨g, 8, none⟩ = some (.string q.f.d)
  out : W.cell? ⟨g, 9, none⟩ = some (.string (B q.out))
  at_ : W.cell? ⟨g, 10, none⟩ = some (.int .i64 q.at_)
  arb : W.cell? ⟨g, 11, none⟩ = some (.int .i64 q.arb)
  r : W.cell? ⟨g, 12, none⟩ = some (.pointer (some ⟨gr, 0, none⟩))
  taken : W.cell? ⟨g, 13, none⟩ = some (.bool q.taken)
  sent : W.cell? ⟨g, 14, none⟩ = some (.int .i64 q.sent)
  got : W.cell? ⟨g, 15, none⟩ = some (.int .i64 q.got)
theorem hq {W : World} {g gr : Nat} {q : Q7} (h : Blk W g QT (qc q gr)) : Hq W g gr q :=
  ⟨h.cell 0, h.cell 1, h.cell 2, h.cell 3, h.cell 4, h.cell 5, h.cell 6, h.cell 7, h.cell 8, h.cell 9, h.cell 10, h.cell 11, h.cell 12, h.cell 13, h.cell 14, h.cell 15⟩
set_option maxRecDepth 100000 in
set_option maxHeartbeats 3200000 in
theorem qpause_calls (g gr : Nat) (q : Q7) (w : World) (hb : Blk w g QT (qc q gr)) : Calls Tryz.prog 75 #[.pointer (some ⟨g, 0, none⟩)] w fun e w' => e = .returned (.tuple #[]) ∧ QH w w' g gr q.pause := by
  have c0 := (hq hb).st
  have c1 := (hq hb).left
  have f0 := hb.frozen 0
  have f1 := hb.frozen 1
  have HH := hid (show QH w _ g gr q.pause from ((here_refl hb).set 0 (.int .i64 4)).set 1 (.int .i64 3))
  go_enter Tryz.func75, Tryz.ntmps75
  go_wp2_with fail
  go_end0
  exact ⟨rfl, HH.out⟩
set_option maxRecDepth 100000 in
set_option maxHeartbeats 3200000 in
theorem qbusy_calls (g gr : Nat) (q : Q7) (w : World) (hb : Blk w g QT (qc q gr)) : Calls Tryz.prog 23 #[.pointer (some ⟨g, 0, none⟩)] w fun e w' => e = .returned (.bool q.busy) ∧ w = w' := by
  have c3 := (hq hb).sender
  have c4 := (hq hb).has
  unfold Q7.busy
  cases h4 : q.has
  · rw [h4] at c4
    go_enter Tryz.func23, Tryz.ntmps23
    go_wp2_with fail
    go_ret
    exact ⟨rfl, rfl⟩
  · rw [h4] at c4
    go_enter Tryz.func23, Tryz.ntmps23
    go_wp2_with fail
    go_ret
    exact ⟨rfl, rfl⟩
set_option maxRecDepth 100000 in
set_option maxHeartbeats 3200000 in
theorem qrecover_calls (g gr : Nat) (q : Q7) (c : Bool) (w : World) (hb : Blk w g QT (qc q gr)) (h0 : -1000 ≤ q.left) (h1 : q.left ≤ 1000) : Calls Tryz.prog 50 #[.pointer (some ⟨g, 0, none⟩), .bool c] w fun e w' => e = .returned (.tuple #[]) ∧ QH w w' g gr (q.recover c) := by
  have c1 := (hq hb).left
  have c2 := (hq hb).first
  have f1 := hb.frozen 1
  have f2 := hb.frozen 2
  obtain ⟨X, hX⟩ : ∃ X, X = q.recover c := ⟨_, rfl⟩
  rw [← hX]
  unfold Q7.recover at hX
  cases hf : q.first
  · rw [if_neg (show ¬ q.first = true by simp [hf])] at hX
    rw [hf] at c2
    cases c
    · rw [if_pos rfl] at hX
      have HX := hid hX
      have HH := hid (show QH w _ g gr { q with left := 7 } from (here_refl hb).set 1 (.int .i64 7))
      clear hX
      go_enter Tryz.func50, Tryz.ntmps50
      go_wp2_with fail
      go_end0
      rw [HX.out]
      exact ⟨rfl, HH.out⟩
    · rw [if_neg (show ¬ true = false by decide)] at hX
      have ew : IntKind.i64.wrap (q.left - 1) = q.left - 1 := by rw [IntKind.wrap_i64]; omega
      have h2 : QH w _ g gr { q with left := q.left - 1 } := (here_refl hb).set 1 (.int .i64 (q.left - 1))
      have H2 := hid h2
      have d1 := (hq h2.blk).left
      simp only at d1
      clear h2
      by_cases hl : q.left - 1 = 0
      · rw [if_pos hl] at hX
        have e1 : (q.left - 1 = 0) = True := eq_true hl
        have e2 : (q.left - 1 == 0) = true := by simp [hl]
        have HX := hid hX
        clear hX hl
        go_enter Tryz.func50, Tryz.ntmps50
        go_wp2_with fail
        with_reducible refine (qpause_calls g gr _ _ H2.out.blk).mono ?_
        rintro y w2 ⟨rfl, hw⟩
        have H3 := hid (MacW.Here.keep H2.out hw)
        clear hw
        go_wp2_with fail
        go_end0
        rw [HX.out]
        exact ⟨rfl, H3.out⟩
      · rw [if_neg hl] at hX
        have e1 : (q.left - 1 = 0) = False := eq_false hl
        have e2 : (q.left - 1 == 0) = false := by simp [hl]
        have HX := hid hX
        clear hX hl
        go_enter Tryz.func50, Tryz.ntmps50
        go_wp2_with fail
        go_end0
        rw [HX.out]
        exact ⟨rfl, H2.out⟩
  · rw [if_pos hf] at hX
    rw [hf] at c2
    have HX := hid hX
    have HH := hid (show QH w _ g gr { q with first := !c } from (here_refl hb).set 2 (.bool (!c)))
    clear hX
    go_enter Tryz.func50, Tryz.ntmps50
    go_wp2_with fail
    go_end0
    rw [HX.out]
    exact ⟨rfl, HH.out⟩
def askq (q : Q7) (f : Fm) (x y : Bool) : Q7 := { q with has := if x then true else q.has, f := if y then f else q.f }
structure AskQ (w : World) (g gr p : Nat) (q : Q7) (f : Fm) (b : Nat → Bool) (_γ : Nat → Nat) (W : World) : Prop where
  node : QH w W g gr (askq q f (b 5) (b 8))
  box : Blk W p 35 (fc f)
set_option maxRecDepth 100000 in
set_option maxHeartbeats 3200000 in
theorem qask_calls (g gr : Nat) (q : Q7) (f : Fm) (w : World) (hb : Blk w g QT (qc q gr)) : Calls Tryz.prog 8 #[.pointer (some ⟨g, 0, none⟩), fv f] w fun e w' => e = .returned (.int .i64 (q.ask f).2) ∧ QH w w' g gr (q.ask f).1 := by
  have hA := hb.alloc (.cells #[.bool f.e, .int .u32 f.i, .bool f.r, .string f.d] 35)
  have c0 := (hq hA).st
  have hF : Blk (w.alloc (.cells #[.bool f.e, .int .u32 f.i, .bool f.r, .string f.d] 35)) w.heap.size 35 (fc f) := Blk.new w (fc f) 35
  have a0 := hF.cell 0
  have a1 := hF.cell 1
  have a2 := hF.cell 2
  have a3 := hF.cell 3
  simp only [fc, List.getElem?_cons_zero, List.getElem?_cons_succ] at a0 a1 a2 a3
  have H0 := hid (show QH w _ g gr q from ⟨hA, grown_alloc (grown_refl w (some g)) _⟩)
  have HF := hid hF
  have HI := hid (fun W => ris_calls f.e f.i f.r f.d W)
  obtain ⟨X, hX⟩ : ∃ X, X = q.ask f := ⟨_, rfl⟩
  rw [← hX]
  unfold Q7.ask Fm.ok at hX
  clear hA hb hF
  unfold fv
  by_cases h7 : q.st = 5
  · rw [if_pos h7] at hX
    have e1 : (q.st = 5) = True := eq_true h7
    have e2 : (q.st == 5) = true := by simp [h7]
    have HX := hid hX
    clear hX h7
    go_enter Tryz.func8, Tryz.ntmps8
    go_wp2_with fail
    go_ret
    rw [HX.out]
    exact ⟨rfl, H0.out⟩
  · rw [if_neg h7] at hX
    have e1 : (q.st = 5) = False := eq_false h7
    have e2 : (q.st == 5) = false := by simp [h7]
    have HX := hid hX
    clear hX h7
    go_enter Tryz.func8, Tryz.ntmps8
    go_wp2_with fail
    refine (HI.out _).mono ?_
    rintro y w1 ⟨rfl, hbl⟩
    have H1 := hid (H0.out.later hbl)
    have HF1 := hid (HF.out.below hbl)
    cases ho : okF f.e f.i f.r f.d
    · have HX := HX.out
      rw [if_pos ho] at HX
      have HX := hid HX
      go_wp2_with fail
      go_ret
      rw [HX.out]
      exact ⟨rfl, H1.out⟩
    · have HX := HX.out
      rw [if_neg (by simp [ho])] at HX
      go_wp2_with fail
      with_reducible refine (qbusy_calls g gr q _ H1.out.blk).mono ?_
      rintro y w1' ⟨rfl, rfl⟩
      cases hw : q.busy
      · rw [if_neg (by simp [hw])] at HX
        have HX := hid HX
        clear hw
        go_wp2_with fail
        refine region_text (by kernel_rfl) (by kernel_rfl) (AskQ w g gr w.heap.size q f) ⟨by have := H1.out.drew; show QH w _ g gr (askq q f false false); exact this, HF1.out.drew⟩ ?_
        refine t_pure (.pointer (some ⟨g, 0, none⟩)) (fun _ => rfl) (fun b γ W h => ⟨h.node, h.box⟩) (fun b γ W h _ => by go_simp) ?_
        refine t_pure (.pointer (some ⟨g, 0, none⟩)) (fun _ => rfl) (fun b γ W h => ⟨h.node, h.box⟩) (fun b γ W h _ => by go_simp) ?_
        refine t_pure (.agg #[.bool f.e, .int .u32 f.i, .bool f.r, .string f.d]) (fun _ => rfl) (fun b γ W h => ⟨h.node, h.box⟩) (fun b γ W h _ => ?_) ?_
        · have q0 := h.box.cell 0
          have q1 := h.box.cell 1
          have q2 := h.box.cell 2
          have q3 := h.box.cell 3
          simp only [fc, List.getElem?_cons_zero, List.getElem?_cons_succ] at q0 q1 q2 q3
          go_simp
        refine t_pure (.pointer (some ⟨g, 0, none⟩)) (fun _ => rfl) (fun b γ W h => ⟨h.node, h.box⟩) (fun b γ W h _ => by go_simp) ?_
        refine t_pure (.pointer (some ⟨g, 4, none⟩)) (fun _ => rfl) (fun b γ W h => ⟨h.node, h.box⟩) (fun b γ W h _ => by go_simp) ?_
        refine t_store (fun _ => rfl) (fun b γ W h hb hn hf => ?_) ?_
        · have hnode := h.node
          rw [hb] at hnode
          have q4 := (hq hnode.blk).has
          have f4 := hnode.blk.frozen 4
          have hne : w.heap.size ≠ g := h.box.ne hnode.blk (by decide)
          refine ⟨W.setCell ⟨g, 4, none⟩ (.bool true), by go_simp, ?_, h.box.far (p := ⟨g, 4, none⟩) hne _⟩
          rw [up_at, up_of_ne (by decide)]
          exact hnode.set 4 (.bool true)
        refine t_pure (.pointer (some ⟨g, 0, none⟩)) (fun _ => rfl) (fun b γ W h => ⟨h.node, h.box⟩) (fun b γ W h _ => by go_simp) ?_
        refine t_pure (.pointer (some ⟨g, 5, none⟩)) (fun _ => rfl) (fun b γ W h => ⟨h.node, h.box⟩) (fun b γ W h _ => by go_simp) ?_
        refine t_store (fun _ => rfl) (fun b γ W h hb hn hf => ?_) ?_
        · have hnode := h.node
          rw [hb] at hnode
          have q5 := (hq hnode.blk).fe
          have q6 := (hq hnode.blk).fi
          have q7 := (hq hnode.blk).fr
          have q8 := (hq hnode.blk).fd
          have f5 := hnode.blk.frozen 5
          have f6 := hnode.blk.frozen 6
          have f7 := hnode.blk.frozen 7
          have f8 := hnode.blk.frozen 8
          have hne : w.heap.size ≠ g := h.box.ne hnode.blk (by decide)
          refine ⟨(((W.setCell ⟨g, 5, none⟩ (.bool f.e)).setCell ⟨g, 6, none⟩ (.int .u32 f.i)).setCell ⟨g, 7, none⟩ (.bool f.r)).setCell ⟨g, 8, none⟩ (.string f.d), by go_simp, ?_,
            (((h.box.far (p := ⟨g, 5, none⟩) hne _).far (p := ⟨g, 6, none⟩) hne _).far (p := ⟨g, 7, none⟩) hne _).far (p := ⟨g, 8, none⟩) hne _⟩
          rw [up_at, up_of_ne (by decide)]
          exact (((hnode.set 5 (.bool f.e)).set 6 (.int .u32 f.i)).set 7 (.bool f.r)).set 8 (.string f.d)
        refine t_end ?_
        intro bq gq w2 hall hS
        have hn := hS.node
        rw [hall 5 (by decide), hall 8 (by decide)] at hn
        have HN := hid hn
        clear hn hS hall
        go_wp2_with fail
        go_ret
        rw [HX.out]
        exact ⟨rfl, HN.out⟩
      · rw [if_pos hw] at HX
        have HX := hid HX
        clear hw
        go_wp2_with fail
        go_ret
        rw [HX.out]
        exact ⟨rfl, H1.out⟩
end Go.Proofs.YtpkpnaedacefaaaGreat.MacR


/- The document's node on the wire (package ostinatoref7), walked: bad, Drive, hearing. -/
namespace Go.Proofs.YtpkpnaedacefaaaGreat.MacR
set_option linter.unusedVariables false
set_option linter.unusedSimpArgs false
open Go Go.RowKit Go.Proofs.YtpkpnaedacefaaaGreat.Lib Go.Proofs.YtpkpnaedacefaaaGreat.Bits Go.Proofs.YtpkpnaedacefaaaGreat.BitsW Go.Proofs.YtpkpnaedacefaaaGreat.StuffW Go.Proofs.YtpkpnaedacefaaaGreat.Frame Go.Proofs.YtpkpnaedacefaaaGreat.FrameW Go.Proofs.YtpkpnaedacefaaaGreat.Code Go.Proofs.YtpkpnaedacefaaaGreat.CodeW Go.Proofs.YtpkpnaedacefaaaGreat.CodeL Go.Proofs.YtpkpnaedacefaaaGreat.Mac Go.Proofs.YtpkpnaedacefaaaGreat.MacW Go.Proofs.YtpkpnaedacefaaaGreat.RefW Go.Proofs.YtpkpnaedacefaaaGreat.PrintMore
attribute [local go_sem] max2_int min2_int max_two min_two
attribute [local go_sem] MacL.field_got MacL.field_sent
/-- Grown from w but for g; then in blocks that are newer. -/
theorem grown_trans_own {w a b c : World} {g : Nat} {o : Option Nat} (h : w.grownBy a (some g)) (k : a.grownBy b none) (l : b.grownBy c o) (ho : ∀ i, o = some i → w.heap.size ≤ i) : w.grownBy c (some g) :=
  ⟨l.os.trans (k.os.trans h.os), l.tape.trans (k.tape.trans h.tape), l.output.trans (k.output.trans h.output), Nat.le_trans h.size (Nat.le_trans k.size l.size), fun j hj hne =>
    (l.block j (Nat.lt_of_lt_of_le hj (Nat.le_trans h.size k.size)) (fun e => by have := ho j e.symm; omega)).trans ((k.block j (Nat.lt_of_lt_of_le hj h.size) (by simp)).trans (h.block j hj hne))⟩
set_option maxRecDepth 100000 in
set_option maxHeartbeats 3200000 in
theorem qbad_calls (g gr : Nat) (q : Q7) (x : Ev) (w : World) (hb : Blk w g QT (qc q gr)) : Calls Tryz.prog 73 #[.pointer (some ⟨g, 0, none⟩), ev x] w fun e w' =>
    ∃ v, e = .returned v ∧ QH w w' g gr (q.bad x).1 ∧ Evs w' w.heap.size v (q.bad x).2 := by
  have hA := hb.alloc (.cells #[.int .i64 x.kind, .bool x.f.e, .int .u32 x.f.i, .bool x.f.r, .string x.f.d, .int .i64 x.err] 60)
  have hF : Blk (w.alloc (.cells #[.int .i64 x.kind, .bool x.f.e, .int .u32 x.f.i, .bool x.f.r, .string x.f.d, .int .i64 x.err] 60)) w.heap.size 60 (ec x) := Blk.new w (ec x) 60
  obtain ⟨q0, q1, q2, q3, q4, q5⟩ := box6 hF
  have H0 := hid (show QH w _ g gr q from ⟨hA, grown_alloc (grown_refl w (some g)) _⟩)
  have HF := hid hF
  have HI := hid (fun W => qoff_calls q.sent q.got W)
  obtain ⟨X, hX⟩ : ∃ X, X = q.bad x := ⟨_, rfl⟩
  rw [← hX]
  unfold Q7.bad at hX
  have hne : w.heap.size ≠ g := hF.ne hA (by decide)
  have HX := hid hX
  clear hA hF hb hX
  unfold ev
  go_enter Tryz.func73, Tryz.ntmps73
  go_upto_region 2 with fail
  have hE : Evs ((w.alloc (.cells #[.int .i64 x.kind, .bool x.f.e, .int .u32 x.f.i, .bool x.f.r, .string x.f.d, .int .i64 x.err] 60)).alloc (.cells #[.int .i64 x.kind, .bool x.f.e, .int .u32 x.f.i, .bool x.f.r, .string x.f.d, .int .i64 x.err] 60)) w.heap.size (.slice (some ⟨w.heap.size + 1, 0, none⟩) 1 1) [x] :=
    evs_new (L := [x]) (cs := ec x) (by simp) (List.append_nil _).symm (Nat.le_succ _) (by simp)
  have h1 : QH w ((w.alloc (.cells #[.int .i64 x.kind, .bool x.f.e, .int .u32 x.f.i, .bool x.f.r, .string x.f.d, .int .i64 x.err] 60)).alloc (.cells #[.int .i64 x.kind, .bool x.f.e, .int .u32 x.f.i, .bool x.f.r, .string x.f.d, .int .i64 x.err] 60)) g gr q := ⟨H0.out.blk.alloc _, grown_alloc H0.out.grown _⟩
  clear q0 q1 q2 q3 q4 q5 H0 HF hne
  generalize (w.alloc (.cells #[.int .i64 x.kind, .bool x.f.e, .int .u32 x.f.i, .bool x.f.r, .string x.f.d, .int .i64 x.err] 60)).alloc (.cells #[.int .i64 x.kind, .bool x.f.e, .int .u32 x.f.i, .bool x.f.r, .string x.f.d, .int .i64 x.err] 60) = w1 at hE h1 ⊢
  have hpb : w.heap.size ≤ w.heap.size + 1 := Nat.le_succ _
  generalize w.heap.size + 1 = p at hE hpb ⊢
  have hpg : p ≠ g := by
    intro e
    subst e
    obtain ⟨hh, _⟩ := hE.2.resolve_left (by rintro ⟨h, _⟩; cases h)
    rcases hE.2 with ⟨h, _⟩ | ⟨g', cap, cur, h2, _, h3, _⟩
    · cases h
    · injection h2 with h2
      injection h2 with h2
      injection h2 with h2
      subst h2
      have := h1.blk
      unfold Blk at this
      rw [h3] at this
      simp at this
      exact absurd this.2 (by decide)
  have H1 := hid h1
  have HE := hid hE
  have c0 := (hq h1.blk).st
  have c1 := (hq h1.blk).left
  have c3 := (hq h1.blk).sender
  have c14 := (hq h1.blk).sent
  have c15 := (hq h1.blk).got
  have f0 := h1.blk.frozen 0
  have f1 := h1.blk.frozen 1
  have f3 := h1.blk.frozen 3
  have h2 : QH w _ g gr { q with sender := false, st := 2, left := 6 } := ((h1.set 3 (.bool false)).set 0 (.int .i64 2)).set 1 (.int .i64 6)
  have hg2 : w1.grownBy _ (some g) := grown_set (grown_set (grown_set (grown_refl w1 (some g)) 3 (.bool false)) 0 (.int .i64 2)) 1 (.int .i64 6)
  have hE2 := evs_kept hE hg2 (fun i e e2 => by injection e with e; simp only [Value.ownBlock, Option.some.injEq] at e2; omega)
  have H2 := hid h2
  have HE2 := hid hE2
  clear h1 hE h2 hg2 hE2 H1 HE
  go_wp2_with fail
  refine (HI.out _).mono ?_
  rintro y w3 ⟨rfl, hbl⟩
  have h3 := H2.out.later hbl
  have hE3 := evs_below HE2.out (hbl.mono (Nat.le_refl _))
  clear H2 HE2 HI hbl c0 c1 c3 c14 c15 f0 f1 f3
  cases ho : isOff q.sent
  · have hX := HX.out
    rw [if_neg (by simp [ho])] at hX
    have HX := hid hX
    have H3 := hid h3
    have HE3 := hid hE3
    clear h3 hE3 hX
    go_wp2_with fail
    go_ret
    rw [HX.out]
    exact ⟨_, rfl, H3.out, HE3.out⟩
  · have hX := HX.out
    rw [if_pos ho] at hX
    have HX := hid hX
    have c0 := (hq h3.blk).st
    have c4 := (hq h3.blk).has
    have f0 := h3.blk.frozen 0
    have f4 := h3.blk.frozen 4
    simp only at c0 c4
    have h4 : QH w _ g gr { q with sender := false, st := 5, left := 6, has := false } := (h3.set 0 (.int .i64 5)).set 4 (.bool false)
    have hg4 : w3.grownBy _ (some g) := grown_set (grown_set (grown_refl w3 (some g)) 0 (.int .i64 5)) 4 (.bool false)
    have hE4 := evs_kept hE3 hg4 (fun i e e2 => by injection e with e; simp only [Value.ownBlock, Option.some.injEq] at e2; omega)
    have H4 := hid h4
    have HE4 := hid hE4
    clear h3 hE3 h4 hg4 hE4 hX
    go_upto_region 6 with fail
    generalize ((w3.setCell ⟨g, 0, none⟩ (.int .i64 5)).setCell ⟨g, 4, none⟩ (.bool false)) = w4 at H4 HE4 ⊢
    have hal : w4.grownBy (w4.alloc (.cells #[.int .i64 7, .bool false, .int .u32 0, .bool false, .string ⟨#[]⟩, .int .i64 0] 60)) none := grown_of_below ((Below.refl _ w4).alloc (Nat.le_refl _) _)
    have hE5 := evs_kept HE4.out hal (fun i e => by cases e)
    have hN : Evs (w4.alloc (.cells #[.int .i64 7, .bool false, .int .u32 0, .bool false, .string ⟨#[]⟩, .int .i64 0] 60)) w4.heap.size (.slice (some ⟨w4.heap.size, 0, none⟩) 1 1) [⟨7, Fm.zero, 0⟩] :=
      evs_new (L := [⟨7, Fm.zero, 0⟩]) (cs := ec ⟨7, Fm.zero, 0⟩) rfl (List.append_nil _).symm (Nat.le_refl _) (by simp)
    obtain ⟨v5, w5, r1, r2, r3, r4⟩ := run_app2 hE5 hN (by have := H4.out.grown.size; simp; omega) (by simp) (by simp)
    have h5 : QH w w5 g gr { q with sender := false, st := 5, left := 6, has := false } :=
      ⟨(H4.out.blk.alloc _).grown r3 (by simp only [Value.ownBlock]; intro e; injection e with e; omega), grown_trans_own H4.out.grown hal r3 (fun i e => by simp only [Value.ownBlock, Option.some.injEq] at e; omega)⟩
    have H5 := hid h5
    have HE6 := hid r2
    have R1 := hid r1
    clear H4 HE4 hal hE5 hN r1 r2 r3 r4 h5
    go_wp2_with (at_builtin; refine app_evs rfl (.tmp 28) (.tmp 30) rfl rfl rfl rfl R1.out ?_)
    go_ret
    rw [HX.out]
    exact ⟨_, rfl, H5.out, HE6.out⟩
set_option maxRecDepth 100000 in
set_option maxHeartbeats 3200000 in
theorem rtail_calls (g : Nat) (r : R3) (w : World) (hb : Blk w g RT (R3.cells r)) : Calls Tryz.prog 44 #[.pointer (some ⟨g, 0, none⟩)] w fun e w' => e = .returned (.int .i64 r.tail) ∧ w = w' := by
  have c4 : w.cell? ⟨g, 4, none⟩ = some (.int .i64 r.tail) := hb.cell 4
  go_enter Tryz.func44, Tryz.ntmps44
  go_wp2_with fail
  go_ret
  exact ⟨rfl, rfl⟩
theorem isPas_not (b : Bool) : ((sg (!b)).toNat : Int) = if b then 48 else 49 := by cases b <;> rfl
set_option maxRecDepth 100000 in
set_option maxHeartbeats 6400000 in
theorem qdrive_calls (g gr : Nat) (q : Q7) (w : World) (hb : Blk w g QT (qc q gr)) (hr : Blk w gr RT (R3.cells q.r)) (hp : q.r.plain.length ≤ 100000) (hw : q.r.want ≤ 100000) (ho : q.st = 1 → q.sender = true → q.at_ < q.out.length) :
    Calls Tryz.prog 29 #[.pointer (some ⟨g, 0, none⟩)] w fun e w' => e = .returned (.int .u8 ((sg q.drive).toNat : Int)) ∧ Below w.heap.size w w' := by
  have HB := hid (Below.refl w.heap.size w)
  have c0 := (hq hb).st
  have c3 := (hq hb).sender
  have c4 := (hq hb).has
  have c9 := (hq hb).out
  have c10 := (hq hb).at_
  have c12 := (hq hb).r
  have c14 := (hq hb).sent
  have c15 := (hq hb).got
  obtain ⟨X, hX⟩ : ∃ X, X = q.drive := ⟨_, rfl⟩
  rw [← hX]
  unfold Q7.drive at hX
  by_cases h0 : q.st = 0
  · rw [if_pos h0] at hX
    have s0 : (q.st == 0) = true := by simp [h0]
    have s0' : (q.st = 0) = True := eq_true h0
    have HX := hid hX
    clear hX h0
    cases hh : q.has <;> rw [hh] at c4
    all_goals
      go_enter Tryz.func29, Tryz.ntmps29
      go_wp2_with fail
      go_ret
      rw [HX.out, hh]
      exact ⟨rfl, HB.out⟩
  rw [if_neg h0] at hX
  have s0 : (q.st == 0) = false := by simp [h0]
  have s0' : (q.st = 0) = False := eq_false h0
  by_cases h1 : q.st = 1
  · rw [if_pos h1] at hX
    have ho := ho h1
    have s1 : (q.st == 1) = true := by simp [h1]
    have s1' : (q.st = 1) = True := eq_true h1
    cases hs : q.sender
    · rw [hs] at c3
      rw [if_neg (show ¬ q.sender = true by simp [hs])] at hX
      have HX := hid hX
      have HR := hid (fun W h => rright_calls gr q.r W h hp hw)
      have HRB := hid hr
      clear hX h0 h1 hs
      by_cases ht : q.r.tail = 1
      · have t1 : (q.r.tail == 1) = true := by simp [ht]
        have t2 : (q.r.tail = 1) = True := eq_true ht
        go_enter Tryz.func29, Tryz.ntmps29
        go_wp2_with fail
        with_reducible refine (rtail_calls gr q.r _ hr).mono ?_
        rintro y w1 ⟨rfl, rfl⟩
        go_wp2_with fail
        refine (HR.out _ HRB.out).mono ?_
        rintro y w2 ⟨rfl, hb2⟩
        have HX := HX.out
        rw [t1, Bool.true_and] at HX
        cases hrr : q.r.right
        all_goals
          rw [hrr] at HX
          go_wp2_with fail
          go_ret
          rw [HX]
          exact ⟨rfl, hb2⟩
      · have t1 : (q.r.tail == 1) = false := by simp [ht]
        have t2 : (q.r.tail = 1) = False := eq_false ht
        go_enter Tryz.func29, Tryz.ntmps29
        go_wp2_with fail
        with_reducible refine (rtail_calls gr q.r _ hr).mono ?_
        rintro y w1 ⟨rfl, rfl⟩
        have HX := HX.out
        rw [t1, Bool.false_and] at HX
        go_wp2_with fail
        go_ret
        rw [HX]
        exact ⟨rfl, HB.out⟩
    · rw [hs] at c3
      rw [if_pos hs] at hX
      have HX := hid hX
      have hlt := ho hs
      have hx := idx_at q.out q.at_ hlt
      have hsz := B_size q.out
      clear hX h0 h1 hs ho
      go_enter Tryz.func29, Tryz.ntmps29
      go_wp2_with fail
      refine region_text (by kernel_rfl) (by kernel_rfl) (fun _ _ W => Blk W g QT (qc q gr) ∧ Below w.heap.size w W) ⟨hb.drew, HB.out.drew⟩ ?_
      iterate 10 ((try simp only [Act.put, List.setIfInBounds_toArray, List.set_cons_zero, List.set_cons_succ]); first
        | (refine t_skip (fun _ => rfl) (fun b γ W h => h) ?_)
        | (refine t_pure ?_ (fun _ => rfl) (fun b γ W h => h) (fun b γ W h _ => ?_) ?_; rotate_left; · (have c9 := (hq h.1).out; have c10 := (hq h.1).at_; go_simp; first | rfl | (simp; done))))
      refine t_end ?_
      intro bq gq w5 hall HB5
      clear hall
      (try simp only [Act.put, List.setIfInBounds_toArray, List.set_cons_zero, List.set_cons_succ])
      go_wp2_with fail
      go_ret
      rw [HX.out]
      exact ⟨rfl, HB5.2⟩
  rw [if_neg h1] at hX
  have s1 : (q.st == 1) = false := by simp [h1]
  have s1' : (q.st = 1) = False := eq_false h1
  by_cases h2 : q.st = 2
  · rw [if_pos h2] at hX
    have s2 : (q.st == 2) = true := by simp [h2]
    have s2' : (q.st = 2) = True := eq_true h2
    have HX := hid hX
    clear hX h0 h1 h2
    go_enter Tryz.func29, Tryz.ntmps29
    go_wp2_with fail
    refine (qpas_calls q.sent q.got _).mono ?_
    rintro y w1 ⟨rfl, hb1⟩
    cases hpa : isPas q.sent q.got
    all_goals
      go_wp2_with fail
      go_ret
      rw [HX.out, hpa]
      exact ⟨rfl, hb1⟩
  · rw [if_neg h2] at hX
    have s2 : (q.st == 2) = false := by simp [h2]
    have s2' : (q.st = 2) = False := eq_false h2
    have HX := hid hX
    clear hX h0 h1 h2
    go_enter Tryz.func29, Tryz.ntmps29
    go_wp2_with fail
    go_ret
    rw [HX.out]
    exact ⟨rfl, HB.out⟩
end Go.Proofs.YtpkpnaedacefaaaGreat.MacR


/- The document's node on the wire (package ostinatoref7), walked: hearing. -/
namespace Go.Proofs.YtpkpnaedacefaaaGreat.MacR
set_option linter.unusedVariables false
set_option linter.unusedSimpArgs false
open Go Go.RowKit Go.Proofs.YtpkpnaedacefaaaGreat.Lib Go.Proofs.YtpkpnaedacefaaaGreat.Bits Go.Proofs.YtpkpnaedacefaaaGreat.BitsW Go.Proofs.YtpkpnaedacefaaaGreat.StuffW Go.Proofs.YtpkpnaedacefaaaGreat.Frame Go.Proofs.YtpkpnaedacefaaaGreat.FrameW Go.Proofs.YtpkpnaedacefaaaGreat.Code Go.Proofs.YtpkpnaedacefaaaGreat.CodeW Go.Proofs.YtpkpnaedacefaaaGreat.CodeL Go.Proofs.YtpkpnaedacefaaaGreat.Mac Go.Proofs.YtpkpnaedacefaaaGreat.MacW Go.Proofs.YtpkpnaedacefaaaGreat.RefW Go.Proofs.YtpkpnaedacefaaaGreat.PrintMore
attribute [local go_sem] max2_int min2_int max_two min_two
attribute [local go_sem] MacL.field_got MacL.field_sent
/-- Two blocks may have changed: the node's, its reader's. -/
structure G2 (w W : World) (g gr : Nat) : Prop where
  os : W.os = w.os
  tape : W.tape = w.tape
  output : W.output = w.output
  size : w.heap.size ≤ W.heap.size
  block : ∀ k, k < w.heap.size → k ≠ g → k ≠ gr → W.heap[k]? = w.heap[k]?
theorem G2.refl (w : World) (g gr : Nat) : G2 w w g gr := ⟨rfl, rfl, rfl, Nat.le_refl _, fun _ _ _ _ => rfl⟩
theorem G2.own {w a b : World} {g gr : Nat} {o : Option Nat} (h : G2 w a g gr) (k : a.grownBy b o) (ho : ∀ i, o = some i → i = g ∨ i = gr ∨ w.heap.size ≤ i) : G2 w b g gr :=
  ⟨k.os.trans h.os, k.tape.trans h.tape, k.output.trans h.output, Nat.le_trans h.size k.size, fun j hj h1 h2 => (k.block j (Nat.lt_of_lt_of_le hj h.size) (fun e => by
    rcases ho j e.symm with h | h | h
    · exact h1 h
    · exact h2 h
    · omega)).trans (h.block j hj h1 h2)⟩
theorem G2.drew {w a : World} {g gr : Nat} (h : G2 w a g gr) : G2 w a.drew g gr := ⟨h.os, h.tape, h.output, h.size, h.block⟩
theorem G2.trans {w a b : World} {g gr gr' : Nat} (h : G2 w a g gr) (k : G2 a b g gr') (hn : gr' = gr ∨ w.heap.size ≤ gr') : G2 w b g gr :=
  ⟨k.os.trans h.os, k.tape.trans h.tape, k.output.trans h.output, Nat.le_trans h.size k.size, fun j hj h1 h2 => (k.block j (Nat.lt_of_lt_of_le hj h.size) h1 (fun e => by
    rcases hn with h | h
    · exact h2 (e.trans h)
    · omega)).trans (h.block j hj h1 h2)⟩
/-- A node, and its reader, in memory. -/
structure QP (w W : World) (g gr gr' : Nat) (q : Q7) : Prop where
  node : Blk W g QT (qc q gr')
  rd : Blk W gr' RT (R3.cells q.r)
  g2 : G2 w W g gr
  new : gr' = gr ∨ w.heap.size ≤ gr'
theorem rd_ne {W : World} {g gr gr' : Nat} {q : Q7} {r : R3} (h : Blk W g QT (qc q gr')) (k : Blk W gr RT (R3.cells r)) : gr ≠ g := k.ne h (by decide)
/-- What is read of a node: bounds. -/
structure QB (q : Q7) : Prop where
  S : q.r.S.length ≤ 9000
  plain : q.r.plain.length ≤ 9000
  run : q.r.run.length ≤ 9000
  tail : q.r.tail ≤ 9000
  want : q.r.want ≤ 9000
structure HeIn (w : World) (g gr : Nat) (q : Q7) (c : Bool) (b : Nat → Bool) (_γ : Nat → Nat) (W : World) : Prop where
  node : Blk W g QT (qc q gr)
  rd : Blk W gr RT (R3.cells (if b 7 then (q.r.next c).1 else q.r))
  g2 : G2 w W g gr
theorem two_blk {W : World} {p : Nat} {T : TypeId} {cs : List Value} {i : Nat} {v : Value} (h : Blk W p T cs) (hi : cs[i]? = some v) : W.cell? ⟨p, i, none⟩ = some v := (h.cell i).trans hi
set_option maxRecDepth 100000 in
set_option maxHeartbeats 6400000 in
theorem qhearing_calls (g gr : Nat) (q : Q7) (c : Bool) (w : World) (hb : Blk w g QT (qc q gr)) (hr : Blk w gr RT (R3.cells q.r)) (hB : QB q) :
    Calls Tryz.prog 49 #[.pointer (some ⟨g, 0, none⟩), .bool c] w fun e w' => ∃ v, e = .returned v ∧ QP w w' g gr gr (q.hearing c).1 ∧ Evs w' w.heap.size v (q.hearing c).2 := by
  have hne : gr ≠ g := rd_ne hb hr
  have c13 := (hq hb).taken
  obtain ⟨X, hX⟩ : ∃ X, X = q.hearing c := ⟨_, rfl⟩
  rw [← hX]
  unfold Q7.hearing at hX
  cases ht : q.taken
  · rw [ht] at c13
    rw [if_neg (show ¬ q.taken = true by simp [ht])] at hX
    have HX := hid hX
    clear hX
    go_enter Tryz.func49, Tryz.ntmps49
    go_wp2_with fail
    have hx0 : ∀ W, (Instr.index 9 (.string (B [c])) (.int .i64 0)).run Tryz.prog W = .ok (.int .u8 ((sg c).toNat : Int)) W := idx_at [c] 0 (by simp)
    have hy : (((sg c).toNat : Int) == 49) = c := by cases c <;> rfl
    refine region_text (by kernel_rfl) (by kernel_rfl) (HeIn w g gr q c) ⟨hb.drew, hr.drew, (G2.refl w g gr).drew⟩ ?_
    iterate 9 ((try simp only [Act.put, List.setIfInBounds_toArray, List.set_cons_zero, List.set_cons_succ]); first
      | (refine t_skip (fun _ => rfl) (fun b γ W h => h) ?_)
      | (refine t_call (.string (B [c])) (fun _ => rfl) (f := 74) (args := #[.bool c]) ?_ (fun b γ W h _ => (bit_calls c W).mono (fun e w2 h2 => ⟨h2.1, ⟨h.node.below h2.2, by rw [up_of_ne (by decide)]; exact h.rd.below h2.2, h.g2.own (o := none) (grown_of_below h2.2) (fun i e => by cases e)⟩⟩)) ?_; · (intro b γ W h _; go_simp; done))
      | (refine t_call (.int .i64 ((q.r.next c).2 : Int)) (fun _ => rfl) (f := 68) (args := #[.pointer (some ⟨gr, 0, none⟩), .int .u8 ((sg c).toNat : Int)]) ?_ (fun b γ W h hb7 => (rnext3_calls gr q.r c _ W (by have := h.rd; rw [hb7] at this; exact this) hy (by have := hB.S; omega) (by have := hB.plain; omega) (by have := hB.run; omega) (by have := hB.tail; omega) (by have := hB.want; omega)).mono (fun e w2 h2 => ⟨h2.1, ⟨h.node.grown h2.2.grown (by simp only [ne_eq, Option.some.injEq]; omega), by rw [up_at]; exact h2.2.blk, h.g2.own h2.2.grown (fun i e => by injection e with e; exact .inr (.inl e.symm))⟩⟩)) ?_; · (intro b γ W h _; go_simp; done))
      | (refine t_pure ?_ (fun _ => rfl) (fun b γ W h => ⟨h.node, by rw [up_of_ne (by decide)]; exact h.rd, h.g2⟩) (fun b γ W h _ => ?_) ?_; rotate_left; · (have c12 := (hq h.node).r; go_simp; first | rfl | (simp; done))))
    refine t_end ?_
    intro bq gq w2 hall hS
    have hrd := hS.rd
    rw [hall 7 (by decide), if_pos rfl] at hrd
    have hnd := hS.node
    have hg2 := hS.g2
    clear hall hS hx0 hy c13 hb hr hB
    (try simp only [Act.put, List.setIfInBounds_toArray, List.set_cons_zero, List.set_cons_succ])
    generalize hN : q.r.next c = n at hrd HX
    obtain ⟨r1, e1⟩ := n
    simp only at hrd HX
    have h1 : QP w w2 g gr gr { q with r := r1 } := ⟨hnd, hrd, hg2, .inl rfl⟩
    have HS := hid hg2.size
    clear hnd hrd hg2 hN
    by_cases he : e1 = 0
    · have x1 : ((e1 : Int) == 0) = true := by simp [he]
      have x2 : ((e1 : Int) = 0) = True := eq_true (by omega)
      have hX := HX.out
      rw [if_neg (show ¬ e1 ≠ 0 by omega)] at hX
      have c12 := (hq h1.node).r
      subst he
      by_cases h9 : r1.tail = 9
      · have t1 : (r1.tail == 9) = true := by simp [h9]
        have t2 : (r1.tail = 9) = True := eq_true h9
        rw [if_pos h9] at hX
        have HX := hid hX
        have H1 := hid h1
        clear hX h1 h9
        go_wp2_with fail
        with_reducible refine (rtail_calls gr r1 _ H1.out.rd).mono ?_
        rintro y w3 ⟨rfl, rfl⟩
        have c13 := (hq H1.out.node).taken
        have c14 := (hq H1.out.node).sent
        have c15 := (hq H1.out.node).got
        have f13 := H1.out.node.frozen 13
        simp only at c13 c14 c15
        have h3 : Blk (w2.setCell ⟨g, 13, none⟩ (.bool true)) g QT (qc { q with r := r1, taken := true } gr) := H1.out.node.set 13 (.bool true)
        have k3 : w2.grownBy (w2.setCell ⟨g, 13, none⟩ (.bool true)) (some g) := grown_set (grown_refl w2 (some g)) 13 (.bool true)
        have h3' : QP w (w2.setCell ⟨g, 13, none⟩ (.bool true)) g gr gr { q with r := r1, taken := true } :=
          ⟨h3, H1.out.rd.grown k3 (by simp only [ne_eq, Option.some.injEq]; omega), H1.out.g2.own k3 (fun i e => by injection e with e; exact .inl e.symm), .inl rfl⟩
        have H3 := hid h3'
        clear h3 k3 h3' H1
        go_wp2_with fail
        refine (qgot_calls q.sent q.got true _).mono ?_
        rintro y w4 ⟨rfl, hb4⟩
        have h4 : QP w w4 g gr gr { q with r := r1, taken := true } := ⟨H3.out.node.below hb4, H3.out.rd.below hb4, H3.out.g2.own (o := none) (grown_of_below hb4) (fun i e => by cases e), .inl rfl⟩
        have HS4 := hid (Nat.le_trans HS.out (show w2.heap.size ≤ w4.heap.size from by have := hb4.size; simpa [World.setCell] using this))
        clear H3 hb4 c12 c13 c14 c15 f13
        have c12 := (hq h4.node).r
        have c14 := (hq h4.node).sent
        have c15 := (hq h4.node).got
        have f14 := h4.node.frozen 14
        have f15 := h4.node.frozen 15
        simp only at c14 c15
        have h5 : Blk ((w4.setCell ⟨g, 14, none⟩ (.int .i64 q.sent)).setCell ⟨g, 15, none⟩ (.int .i64 (gotV q.sent q.got true))) g QT (qc { q with r := r1, taken := true, got := gotV q.sent q.got true } gr) := (h4.node.set 14 _).set 15 _
        have k5 : w4.grownBy ((w4.setCell ⟨g, 14, none⟩ (.int .i64 q.sent)).setCell ⟨g, 15, none⟩ (.int .i64 (gotV q.sent q.got true))) (some g) := grown_set (grown_set (grown_refl w4 (some g)) 14 _) 15 _
        have hrd5 := h4.rd.grown k5 (by simp only [ne_eq, Option.some.injEq]; omega)
        have h5' : QP w ((w4.setCell ⟨g, 14, none⟩ (.int .i64 q.sent)).setCell ⟨g, 15, none⟩ (.int .i64 (gotV q.sent q.got true))) g gr gr { q with r := r1, taken := true, got := gotV q.sent q.got true } :=
          ⟨h5, hrd5, h4.g2.own k5 (fun i e => by injection e with e; exact .inl e.symm), .inl rfl⟩
        have H5 := hid h5'
        have HS5 := hid (Nat.le_trans HS4.out k5.size)
        clear h5 k5 h5' h4
        go_upto_region 11 with fail
        generalize ((w4.setCell ⟨g, 14, none⟩ (.int .i64 q.sent)).setCell ⟨g, 15, none⟩ (.int .i64 (gotV q.sent q.got true))) = w5 at *
        clear c12 c14 c15 f14 f15
        have c12 := (hq H5.out.node).r
        have b5 : w5.cell? ⟨gr, 5, none⟩ = some (.bool r1.F.1) := two_blk H5.out.rd (i := 5) rfl
        have b6 : w5.cell? ⟨gr, 6, none⟩ = some (.int .u32 (r1.F.2.1 : Int)) := two_blk H5.out.rd (i := 6) rfl
        have b7 : w5.cell? ⟨gr, 7, none⟩ = some (.bool r1.F.2.2.1) := two_blk H5.out.rd (i := 7) rfl
        have b8 : w5.cell? ⟨gr, 8, none⟩ = some (.string ⟨r1.F.2.2.2.toArray⟩) := two_blk H5.out.rd (i := 8) rfl
        clear hrd5
        go_wp2_with fail
        go_ret
        rw [HX.out]
        have hal := (World.grownBy_alloc w5 (.cells #[.int .i64 2, .bool r1.F.1, .int .u32 (r1.F.2.1 : Int), .bool r1.F.2.2.1, .string ⟨r1.F.2.2.2.toArray⟩, .int .i64 0] 60) none)
        refine ⟨_, rfl, ⟨H5.out.node.alloc _, H5.out.rd.alloc _, H5.out.g2.own hal (fun i e => by cases e), .inl rfl⟩, ?_⟩
        exact evs_new (L := [⟨2, Fm.of r1.F, 0⟩]) (cs := ec ⟨2, Fm.of r1.F, 0⟩) rfl (List.append_nil _).symm HS5.out (by simp)
      · have t1 : (r1.tail == 9) = false := by simp [h9]
        have t2 : (r1.tail = 9) = False := eq_false h9
        rw [if_neg h9] at hX
        have HX := hid hX
        have H1 := hid h1
        clear hX h1 h9
        go_wp2_with fail
        with_reducible refine (rtail_calls gr r1 _ H1.out.rd).mono ?_
        rintro y w3 ⟨rfl, rfl⟩
        go_wp2_with fail
        go_ret
        rw [HX.out]
        exact ⟨_, rfl, H1.out, evs_nil _ _⟩
    · have x1 : ((e1 : Int) == 0) = false := by simp; omega
      have x2 : ((e1 : Int) = 0) = False := eq_false (by omega)
      have x3 : (e1 = 0) = False := eq_false he
      have hX := HX.out
      rw [if_pos (show e1 ≠ 0 from he)] at hX
      have HX := hid hX
      have c14 := (hq h1.node).sent
      have c15 := (hq h1.node).got
      simp only at c14 c15
      have H1 := hid h1
      clear hX h1
      go_wp2_with fail
      refine (qgot_calls q.sent q.got false _).mono ?_
      rintro y w4 ⟨rfl, hb4⟩
      have h4 : QP w w4 g gr gr { q with r := r1 } := ⟨H1.out.node.below hb4, H1.out.rd.below hb4, H1.out.g2.own (o := none) (grown_of_below hb4) (fun i e => by cases e), .inl rfl⟩
      have HS4 := hid (Nat.le_trans HS.out hb4.size)
      clear H1 hb4 c14 c15
      have c14 := (hq h4.node).sent
      have c15 := (hq h4.node).got
      have f14 := h4.node.frozen 14
      have f15 := h4.node.frozen 15
      simp only at c14 c15
      have h5 : Blk ((w4.setCell ⟨g, 14, none⟩ (.int .i64 q.sent)).setCell ⟨g, 15, none⟩ (.int .i64 (gotV q.sent q.got false))) g QT (qc { q with r := r1, got := gotV q.sent q.got false } gr) := (h4.node.set 14 _).set 15 _
      have k5 : w4.grownBy ((w4.setCell ⟨g, 14, none⟩ (.int .i64 q.sent)).setCell ⟨g, 15, none⟩ (.int .i64 (gotV q.sent q.got false))) (some g) := grown_set (grown_set (grown_refl w4 (some g)) 14 _) 15 _
      have h5' : QP w ((w4.setCell ⟨g, 14, none⟩ (.int .i64 q.sent)).setCell ⟨g, 15, none⟩ (.int .i64 (gotV q.sent q.got false))) g gr gr { q with r := r1, got := gotV q.sent q.got false } :=
        ⟨h5, h4.rd.grown k5 (by simp only [ne_eq, Option.some.injEq]; omega), h4.g2.own k5 (fun i e => by injection e with e; exact .inl e.symm), .inl rfl⟩
      have H5 := hid h5'
      have HS5 := hid (Nat.le_trans HS4.out k5.size)
      clear h5 k5 h5' h4
      go_wp2_with fail
      refine (qbad_calls g gr { q with r := r1, got := gotV q.sent q.got false } ⟨5, Fm.zero, (e1 : Int)⟩ _ H5.out.node).mono ?_
      rintro y w6 ⟨v, rfl, h6, hev⟩
      have hrr : ((({ q with r := r1, got := gotV q.sent q.got false } : Q7).bad ⟨5, Fm.zero, (e1 : Int)⟩).1).r = r1 := by unfold Q7.bad; split <;> rfl
      have H6 := hid (show QP w w6 g gr gr (({ q with r := r1, got := gotV q.sent q.got false } : Q7).bad ⟨5, Fm.zero, (e1 : Int)⟩).1 from
        ⟨h6.blk, by rw [hrr]; exact H5.out.rd.grown h6.grown (by simp only [ne_eq, Option.some.injEq]; omega), H5.out.g2.own h6.grown (fun i e => by injection e with e; exact .inl e.symm), .inl rfl⟩)
      have HE := hid (evs_in hev HS5.out)
      clear h6 hev H5 hrr c14 c15 f14 f15
      go_wp2_with fail
      go_ret
      rw [HX.out]
      exact ⟨_, rfl, H6.out, HE.out⟩
  · rw [ht] at c13
    rw [if_pos ht] at hX
    have HX := hid hX
    clear hX
    go_enter Tryz.func49, Tryz.ntmps49
    go_wp2_with fail
    with_reducible refine (qpause_calls g gr q _ hb).mono ?_
    rintro y w1 ⟨rfl, h1⟩
    have H1 := hid (show QP w w1 g gr gr q.pause from ⟨h1.blk, hr.grown h1.grown (by simp only [ne_eq, Option.some.injEq]; omega), (G2.refl w g gr).own h1.grown (fun i e => by injection e with e; exact .inl e.symm), .inl rfl⟩)
    have HS := hid h1.grown.size
    go_wp2_with fail
    go_ret
    rw [HX.out]
    exact ⟨_, rfl, H1.out, evs_nil _ _⟩
end Go.Proofs.YtpkpnaedacefaaaGreat.MacR


/- The document's node on the wire (package ostinatoref7), walked: New, begin. -/
namespace Go.Proofs.YtpkpnaedacefaaaGreat.MacR
set_option linter.unusedVariables false
set_option linter.unusedSimpArgs false
open Go Go.RowKit Go.Proofs.YtpkpnaedacefaaaGreat.Lib Go.Proofs.YtpkpnaedacefaaaGreat.Bits Go.Proofs.YtpkpnaedacefaaaGreat.BitsW Go.Proofs.YtpkpnaedacefaaaGreat.StuffW Go.Proofs.YtpkpnaedacefaaaGreat.Frame Go.Proofs.YtpkpnaedacefaaaGreat.FrameW Go.Proofs.YtpkpnaedacefaaaGreat.Code Go.Proofs.YtpkpnaedacefaaaGreat.CodeW Go.Proofs.YtpkpnaedacefaaaGreat.CodeL Go.Proofs.YtpkpnaedacefaaaGreat.Mac Go.Proofs.YtpkpnaedacefaaaGreat.MacW Go.Proofs.YtpkpnaedacefaaaGreat.RefW Go.Proofs.YtpkpnaedacefaaaGreat.PrintMore
attribute [local go_sem] max2_int min2_int max_two min_two
theorem code_B (f : Fm) : codeF f.e f.i f.r f.d = B f.code := by
  unfold Fm.code
  cases h : f.ok
  · rw [if_neg (by decide)]
    exact codeF_no h
  · rw [if_pos rfl]
    exact codeF_ok h
theorem arb_B (f : Fm) : arbF f.e f.i f.r f.d = B (if f.ok then arbL f.e f.i.toNat f.r else []) := by
  cases h : f.ok
  · unfold arbF
    rw [if_neg (by rw [show okF f.e f.i f.r f.d = f.ok from rfl, h]; decide), if_neg (by decide)]
    rfl
  · rw [if_pos rfl]
    exact FrameEq.arbF_ok h
theorem arb_le (f : Fm) : (if f.ok then arbL f.e f.i.toNat f.r else []).length ≤ 33 := by
  split
  · rw [arbL_length]; split <;> omega
  · simp
set_option maxRecDepth 100000 in
set_option maxHeartbeats 6400000 in
theorem qbegin_calls (g gr : Nat) (q : Q7) (b : Bool) (w : World) (hb : Blk w g QT (qc q gr)) (hr : Blk w gr RT (R3.cells q.r)) (hw : q.f.wf) :
    Calls Tryz.prog 47 #[.pointer (some ⟨g, 0, none⟩), .bool b] w fun e w' => ∃ v gr', e = .returned v ∧ QP w w' g gr gr' (q.begin b).1 ∧ Evs w' w.heap.size v (q.begin b).2 := by
  have hne : gr ≠ g := rd_ne hb hr
  have hgl := hb.lt
  have c0 := (hq hb).st
  have c13 := (hq hb).taken
  have f0 := hb.frozen 0
  have f13 := hb.frozen 13
  have h1 : Blk _ g QT (qc { q with st := 1, taken := false } gr) := (hb.set 0 (.int .i64 1)).set 13 (.bool false)
  have k1 : w.grownBy _ (some g) := grown_set (grown_set (grown_refl w (some g)) 0 (.int .i64 1)) 13 (.bool false)
  have HG1 := hid ((G2.refl w g gr).own k1 (fun i e => by injection e with e; exact .inl e.symm))
  have HS1 := hid k1.size
  have HRD := hid (fun W => rnew_calls W)
  have H1 := hid h1
  obtain ⟨X, hX⟩ : ∃ X, X = q.begin b := ⟨_, rfl⟩
  rw [← hX]
  unfold Q7.begin at hX
  have HX := hid hX
  clear hX h1 k1
  go_enter Tryz.func47, Tryz.ntmps47
  go_wp2_with fail
  generalize (w.setCell ⟨g, 0, none⟩ (.int .i64 1)).setCell ⟨g, 13, none⟩ (.bool false) = w1 at *
  refine (HRD.out w1).mono ?_
  rintro y w2 ⟨gr', rfl, hgr, hrd, hb2⟩
  have h2 := H1.out.below hb2
  have HG2 := hid (HG1.out.own (o := none) (grown_of_below hb2) (fun i e => by cases e))
  have hng : gr' ≠ g := by have := H1.out.lt; omega
  have hnw : w.heap.size ≤ gr' := Nat.le_trans HS1.out hgr
  have hs2 := Nat.le_trans HS1.out hb2.size
  clear H1 HRD HG1 hgr hb2 c0 c13 f0 f13
  have c12 := (hq h2).r
  have f12 := h2.frozen 12
  have h3 : Blk (w2.setCell ⟨g, 12, none⟩ (.pointer (some ⟨gr', 0, none⟩))) g QT (qc { q with st := 1, taken := false } gr') := h2.set 12 _
  have k3 : w2.grownBy (w2.setCell ⟨g, 12, none⟩ (.pointer (some ⟨gr', 0, none⟩))) (some g) := grown_set (grown_refl w2 (some g)) 12 _
  have hrd3 := hrd.grown k3 (by simp only [ne_eq, Option.some.injEq]; omega)
  have HG3 := hid (HG2.out.own k3 (fun i e => by injection e with e; exact .inl e.symm))
  have hs3 := Nat.le_trans hs2 k3.size
  go_upto_region 3 with fail
  generalize w2.setCell ⟨g, 12, none⟩ (.pointer (some ⟨gr', 0, none⟩)) = w3 at *
  clear h2 hrd k3 HG2 hs2 c12 f12
  have c12 := (hq h3).r
  go_wp2_with fail
  have hn := rnext3_calls gr' R3.new false 48 w3 hrd3 rfl (by decide) (by decide) (by decide) (by decide) (by decide)
  refine hn.mono ?_
  clear hn
  rintro y w4 ⟨rfl, hh⟩
  have h4 : Blk w4 g QT (qc { q with st := 1, taken := false } gr') := h3.grown hh.grown (by simp only [ne_eq, Option.some.injEq]; omega)
  have hrd4 := hh.blk
  have HG4 := hid (HG3.out.own hh.grown (fun i e => by injection e with e; exact .inr (.inr (by omega))))
  have hs4 := Nat.le_trans hs3 hh.grown.size
  clear h3 hrd3 HG3 hs3 hh c12
  have c3 := (hq h4).sender
  have f3 := h4.frozen 3
  have h5 : Blk (w4.setCell ⟨g, 3, none⟩ (.bool b)) g QT (qc { q with st := 1, taken := false, sender := b } gr') := h4.set 3 _
  have k5 : w4.grownBy (w4.setCell ⟨g, 3, none⟩ (.bool b)) (some g) := grown_set (grown_refl w4 (some g)) 3 _
  have hrd5 := hrd4.grown k5 (by simp only [ne_eq, Option.some.injEq]; omega)
  have HG5 := hid (HG4.out.own k5 (fun i e => by injection e with e; exact .inl e.symm))
  have hs5 := Nat.le_trans hs4 k5.size
  go_upto_region 5 with fail
  generalize w4.setCell ⟨g, 3, none⟩ (.bool b) = w5 at *
  clear h4 hrd4 k5 HG4 hs4 c3 f3
  cases b
  · have hX := HX.out
    rw [if_neg (by decide)] at hX
    have HX := hid hX
    clear hX
    have H5 := hid h5
    clear h5
    go_wp2_with fail
    go_ret
    rw [HX.out]
    have hal := (World.grownBy_alloc w5 (.cells #[.int .i64 6, .bool false, .int .u32 0, .bool false, .string ⟨#[]⟩, .int .i64 0] 60) none)
    refine ⟨_, gr', rfl, ⟨H5.out.alloc _, hrd5.alloc _, HG5.out.own hal (fun i e => by cases e), .inr hnw⟩, ?_⟩
    exact evs_new (L := [⟨6, Fm.zero, 0⟩]) (cs := ec ⟨6, Fm.zero, 0⟩) rfl (List.append_nil _).symm hs5 (by simp)
  · have hX := HX.out
    rw [if_pos rfl] at hX
    have HX := hid hX
    clear hX
    have c4 := (hq h5).has
    have f4 := h5.frozen 4
    have h6 : Blk (w5.setCell ⟨g, 4, none⟩ (.bool false)) g QT (qc { q with st := 1, taken := false, sender := true, has := false } gr') := h5.set 4 _
    have k6 : w5.grownBy (w5.setCell ⟨g, 4, none⟩ (.bool false)) (some g) := grown_set (grown_refl w5 (some g)) 4 _
    have hrd6 := hrd5.grown k6 (by simp only [ne_eq, Option.some.injEq]; omega)
    have HG6 := hid (HG5.out.own k6 (fun i e => by injection e with e; exact .inl e.symm))
    have hs6 := Nat.le_trans hs5 k6.size
    go_upto_region 7 with fail
    generalize w5.setCell ⟨g, 4, none⟩ (.bool false) = w6 at *
    clear h5 hrd5 k6 HG5 hs5 c4 f4
    have c5 := (hq h6).fe
    have c6 := (hq h6).fi
    have c7 := (hq h6).fr
    have c8 := (hq h6).fd
    simp only at c5 c6 c7 c8
    have H6 := hid h6
    clear h6
    go_wp2_with fail
    refine (rencode_calls q.f.e q.f.i q.f.r q.f.d w6 hw).mono ?_
    rintro y w7 ⟨rfl, hb7⟩
    rw [code_B]
    have h7 := H6.out.below hb7
    have hrd7 := hrd6.below hb7
    have HG7 := hid (HG6.out.own (o := none) (grown_of_below hb7) (fun i e => by cases e))
    have hs7 := Nat.le_trans hs6 hb7.size
    clear H6 hrd6 HG6 hs6 hb7 c5 c6 c7 c8
    have c9 := (hq h7).out
    have c10 := (hq h7).at_
    have f9 := h7.frozen 9
    have f10 := h7.frozen 10
    have h8 : Blk ((w7.setCell ⟨g, 9, none⟩ (.string (B q.f.code))).setCell ⟨g, 10, none⟩ (.int .i64 1)) g QT (qc { q with st := 1, taken := false, sender := true, has := false, out := q.f.code, at_ := 1 } gr') := (h7.set 9 _).set 10 _
    have k8 : w7.grownBy ((w7.setCell ⟨g, 9, none⟩ (.string (B q.f.code))).setCell ⟨g, 10, none⟩ (.int .i64 1)) (some g) := grown_set (grown_set (grown_refl w7 (some g)) 9 _) 10 _
    have hrd8 := hrd7.grown k8 (by simp only [ne_eq, Option.some.injEq]; omega)
    have HG8 := hid (HG7.out.own k8 (fun i e => by injection e with e; exact .inl e.symm))
    have hs8 := Nat.le_trans hs7 k8.size
    go_upto_region 8 with fail
    generalize (w7.setCell ⟨g, 9, none⟩ (.string (B q.f.code))).setCell ⟨g, 10, none⟩ (.int .i64 1) = w8 at *
    clear h7 hrd7 k8 HG7 hs7 c9 c10 f9 f10
    have c5 := (hq h8).fe
    have c6 := (hq h8).fi
    have c7 := (hq h8).fr
    have c8 := (hq h8).fd
    simp only at c5 c6 c7 c8
    have H8 := hid h8
    clear h8
    go_wp2_with fail
    refine (rarb_calls q.f.e q.f.i q.f.r q.f.d w8 hw).mono ?_
    rintro y w9 ⟨rfl, hb9⟩
    rw [arb_B]
    have h9 := H8.out.below hb9
    have hrd9 := hrd8.below hb9
    have HG9 := hid (HG8.out.own (o := none) (grown_of_below hb9) (fun i e => by cases e))
    have hs9 := Nat.le_trans hs8 hb9.size
    have H9 := hid h9
    clear H8 hrd8 HG8 hs8 hb9 c5 c6 c7 c8 h9
    have harb : q.f.arb = (stuff (if q.f.ok then arbL q.f.e q.f.i.toNat q.f.r else [])).length := rfl
    have hal := arb_le q.f
    generalize (if q.f.ok then arbL q.f.e q.f.i.toNat q.f.r else []) = A at *
    go_wp2_with fail
    refine (rstuff_calls (B A) (by rw [B_size]; omega) w9).mono ?_
    rintro y w10 ⟨rfl, hb10⟩
    rw [bitsOf_B]
    have hsz : (B (stuff A)).size = (stuff A).length := B_size _
    have hX := HX.out
    rw [harb] at hX
    have HX := hid hX
    clear hX
    generalize (stuff A).length = LA at *
    have h10 := H9.out.below hb10
    have hrd10 := hrd9.below hb10
    have HG10 := hid (HG9.out.own (o := none) (grown_of_below hb10) (fun i e => by cases e))
    have hs10 := Nat.le_trans hs9 hb10.size
    clear H9 hrd9 HG9 hs9 hb10
    have c11 := (hq h10).arb
    have f11 := h10.frozen 11
    have h11 : Blk (w10.setCell ⟨g, 11, none⟩ (.int .i64 LA)) g QT (qc { q with st := 1, taken := false, sender := true, has := false, out := q.f.code, at_ := 1, arb := LA } gr') := h10.set 11 _
    have k11 : w10.grownBy (w10.setCell ⟨g, 11, none⟩ (.int .i64 LA)) (some g) := grown_set (grown_refl w10 (some g)) 11 _
    have hrd11 := hrd10.grown k11 (by simp only [ne_eq, Option.some.injEq]; omega)
    have HG11 := hid (HG10.out.own k11 (fun i e => by injection e with e; exact .inl e.symm))
    have hs11 := Nat.le_trans hs10 k11.size
    have H11 := hid h11
    clear h10 hrd10 HG10 hs10 h11 k11
    go_upto_region 9 with fail
    generalize w10.setCell ⟨g, 11, none⟩ (.int .i64 LA) = w11 at *
    go_wp2_with fail
    go_ret
    rw [HX.out]
    have hal2 := (World.grownBy_alloc w11 (.cells #[.int .i64 6, .bool false, .int .u32 0, .bool false, .string ⟨#[]⟩, .int .i64 0] 60) none)
    refine ⟨_, gr', rfl, ⟨H11.out.alloc _, hrd11.alloc _, HG11.out.own hal2 (fun i e => by cases e), .inr hnw⟩, ?_⟩
    exact evs_new (L := [⟨6, Fm.zero, 0⟩]) (cs := ec ⟨6, Fm.zero, 0⟩) rfl (List.append_nil _).symm hs11 (by simp)
end Go.Proofs.YtpkpnaedacefaaaGreat.MacR
