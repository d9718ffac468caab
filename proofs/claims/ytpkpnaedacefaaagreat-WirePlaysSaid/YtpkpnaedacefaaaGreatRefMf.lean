/- The document's node on the wire (package ostinatoref7), walked: sending. -/
import Derived.Test.YtpkpnaedacefaaaGreatRefMb
namespace Go.Proofs.YtpkpnaedacefaaaGreat.MacR
set_option linter.unusedVariables false
set_option linter.unusedSimpArgs false
open Go Go.RowKit Go.Proofs.YtpkpnaedacefaaaGreat.Lib Go.Proofs.YtpkpnaedacefaaaGreat.Bits Go.Proofs.YtpkpnaedacefaaaGreat.BitsW Go.Proofs.YtpkpnaedacefaaaGreat.StuffW Go.Proofs.YtpkpnaedacefaaaGreat.Frame Go.Proofs.YtpkpnaedacefaaaGreat.FrameW Go.Proofs.YtpkpnaedacefaaaGreat.Code Go.Proofs.YtpkpnaedacefaaaGreat.CodeW Go.Proofs.YtpkpnaedacefaaaGreat.CodeL Go.Proofs.YtpkpnaedacefaaaGreat.Mac Go.Proofs.YtpkpnaedacefaaaGreat.MacW Go.Proofs.YtpkpnaedacefaaaGreat.RefW Go.Proofs.YtpkpnaedacefaaaGreat.PrintMore
attribute [local go_sem] max2_int min2_int max_two min_two
attribute [local go_sem] MacL.field_got MacL.field_sent
theorem QP.drew {w W : World} {g gr gr' : Nat} {q : Q7} (h : QP w W g gr gr' q) : QP w W.drew g gr gr' q := ⟨h.node.drew, h.rd.drew, h.g2.drew, h.new⟩
theorem QP.later {w W W' : World} {g gr gr' : Nat} {q : Q7} (h : QP w W g gr gr' q) (k : Below W.heap.size W W') : QP w W' g gr gr' q :=
  ⟨h.node.below k, h.rd.below k, h.g2.own (o := none) (grown_of_below k) (fun i e => by cases e), h.new⟩
theorem QP.set {w W : World} {g gr : Nat} {q q' : Q7} (h : QP w W g gr gr q) (i : Nat) (v : Value) (hq : (qc q gr).set i v = qc q' gr) (hr : q'.r = q.r) : QP w (W.setCell ⟨g, i, none⟩ v) g gr gr q' := by
  have k : W.grownBy (W.setCell ⟨g, i, none⟩ v) (some g) := grown_set (grown_refl W (some g)) i v
  have hne := rd_ne h.node h.rd
  exact ⟨by rw [← hq]; exact h.node.set i v, by rw [hr]; exact h.rd.grown k (by simp only [ne_eq, Option.some.injEq]; omega), h.g2.own k (fun i e => by injection e with e; exact .inl e.symm), h.new⟩
/-- What it does with the bit, its place counted. -/
def Q7.sent1 (q : Q7) (d c : Bool) : Q7 × List Ev :=
  if d = true ∧ c = false ∧ q.at_ ≤ q.arb then ((Q7.hearing { q with sender := false } c).1, ⟨3, q.f, 0⟩ :: (Q7.hearing { q with sender := false } c).2)
  else if q.at_ + 8 = q.out.length ∧ c = true then Q7.bad { q with sent := sentK q.sent q.got false } ⟨4, q.f, 71⟩
  else if ¬ q.at_ + 8 = q.out.length ∧ c ≠ d then Q7.bad { q with sent := sentK q.sent q.got false } ⟨4, q.f, 70⟩
  else if q.at_ = q.out.length then (Q7.pause { q with r := (q.r.next c).1, sent := sentK q.sent q.got true, sender := false }, [⟨1, q.f, 0⟩])
  else ({ q with r := (q.r.next c).1 }, [])
theorem sending_one (q : Q7) (c : Bool) : q.sending c = Q7.sent1 { q with at_ := q.at_ + 1 } (q.out.getD q.at_ false) c := rfl
theorem qhearing_len (q : Q7) (c : Bool) : (q.hearing c).2.length ≤ 10 := by
  unfold Q7.hearing
  split
  · simp
  · split
    · unfold Q7.bad; split <;> simp
    · split <;> simp
theorem evs_g2 {W W' : World} {b g gr : Nat} {v : Value} {L : List Ev} (h : Evs W b v L) (k : G2 W W' g gr) (hg : ∀ i, v.ownBlock = some i → i ≠ g ∧ i ≠ gr) : Evs W' b v L := by
  refine ⟨h.1, h.2.imp id ?_⟩
  rintro ⟨p, cap, cur, rfl, h3, h4, r⟩
  obtain ⟨h1, h2⟩ := hg p rfl
  exact ⟨p, cap, cur, rfl, h3, (k.block p (Array.getElem?_eq_some_iff.1 h4).1 h1 h2).trans h4, r⟩
/-- The region in which a lost frame is told. -/
structure SL (w : World) (g gr : Nat) (q0 q1 : Q7) (x : Ev) (L : List Ev) (b : Nat → Bool) (γ : Nat → Nat) (W : World) : Prop where
  node : QP w W g gr gr (if b 8 then q1 else q0)
  ord : b 9 = true → b 5 = true ∧ b 8 = true
  ev1 : b 5 = true → b 9 = false → Evs W w.heap.size (.slice (some ⟨γ 5, 0, none⟩) 1 1) [x]
  ev2 : b 8 = true → b 9 = false → Evs W w.heap.size (decV L.length (γ 8)) L
  out : b 9 = true → Evs W w.heap.size (decV (x :: L).length (γ 9)) (x :: L)
theorem SL.up {w : World} {g gr : Nat} {q0 q1 : Q7} {x : Ev} {L : List Ev} {b : Nat → Bool} {γ : Nat → Nat} {W : World} (h : SL w g gr q0 q1 x L b γ W) (i : Nat) (h2 : i ≠ 5) (h5 : i ≠ 8) (h6 : i ≠ 9) : SL w g gr q0 q1 x L (up b i) γ W := by
  have e2 : Lib.up b i 5 = b 5 := up_of_ne (fun e => h2 e.symm)
  have e5 : Lib.up b i 8 = b 8 := up_of_ne (fun e => h5 e.symm)
  have e6 : Lib.up b i 9 = b 9 := up_of_ne (fun e => h6 e.symm)
  exact ⟨by rw [e5]; exact h.node, by rw [e2, e5, e6]; exact h.ord, by rw [e2, e6]; exact h.ev1, by rw [e5, e6]; exact h.ev2, by rw [e6]; exact h.out⟩
/-- The ways: it loses, no acknowledgement or another bit, or it goes on. -/
theorem ways_of (d c k a : Bool) : (d = true ∧ c = false ∧ a = true) ∨ (k = true ∧ c = true) ∨ (k = false ∧ ((d = true ∧ c = false ∧ a = false) ∨ (d = false ∧ c = true))) ∨
    ((d = true ∧ c = false ∧ a = false ∧ k = true) ∨ (d = true ∧ c = true ∧ k = false) ∨ (d = false ∧ c = false ∧ k = false) ∨ (d = false ∧ c = false ∧ k = true)) := by
  revert d c k a; decide
theorem qhearing_f (q : Q7) (c : Bool) : (q.hearing c).1.f = q.f := by
  unfold Q7.hearing
  split
  · rfl
  · split
    · unfold Q7.bad; split <;> rfl
    · split <;> rfl
theorem SL.fr {w : World} {g gr : Nat} {q0 q1 : Q7} {x : Ev} {L : List Ev} {b : Nat → Bool} {γ : Nat → Nat} {W : World} (h : SL w g gr q0 q1 x L b γ W) (e : q1.f = q0.f) :
    W.cell? ⟨g, 5, none⟩ = some (.bool q0.f.e) ∧ W.cell? ⟨g, 6, none⟩ = some (.int .u32 q0.f.i) ∧ W.cell? ⟨g, 7, none⟩ = some (.bool q0.f.r) ∧ W.cell? ⟨g, 8, none⟩ = some (.string q0.f.d) := by
  have hn := hq h.node.node
  have e' : (if b 8 then q1 else q0).f = q0.f := by split <;> first | exact e | rfl
  refine ⟨?_, ?_, ?_, ?_⟩
  · rw [hn.fe, e']
  · rw [hn.fi, e']
  · rw [hn.fr, e']
  · rw [hn.fd, e']
theorem QP.alloc {w W : World} {g gr gr' : Nat} {q : Q7} (h : QP w W g gr gr' q) (o : Obj) : QP w (W.alloc o) g gr gr' q :=
  ⟨h.node.alloc _, h.rd.alloc _, h.g2.own (World.grownBy_alloc W o none) (fun i e => by cases e), h.new⟩
set_option maxRecDepth 100000 in
set_option maxHeartbeats 25600000 in
theorem qsending_calls (g gr : Nat) (q : Q7) (c : Bool) (w : World) (hb : Blk w g QT (qc q gr)) (hr : Blk w gr RT (R3.cells q.r)) (hB : QB q) (hlt : q.at_ < q.out.length) (hlen : q.out.length ≤ 1000) (harb : q.arb ≤ 1000) :
    Calls Tryz.prog 48 #[.pointer (some ⟨g, 0, none⟩), .bool c] w fun e w' => ∃ v, e = .returned v ∧ QP w w' g gr gr (q.sending c).1 ∧ Evs w' w.heap.size v (q.sending c).2 := by
  have hne : gr ≠ g := rd_ne hb hr
  have HG := hid (show g < w.heap.size ∧ gr < w.heap.size from ⟨hb.lt, hr.lt⟩)
  have hx := idx_at q.out q.at_ hlt
  have H0 := hid (show QP w w g gr gr q from ⟨hb, hr, G2.refl w g gr, .inl rfl⟩)
  obtain ⟨d, hd⟩ : ∃ d, q.out.getD q.at_ false = d := ⟨_, rfl⟩
  rw [show bitAt q.out q.at_ = d from hd] at hx
  have hd49 : (((sg d).toNat : Int) == 49) = d := by cases d <;> rfl
  have hd49' : (((sg d).toNat : Int) = 49) = (d = true) := by cases d <;> simp [sg]
  obtain ⟨X, hX⟩ : ∃ X, X = q.sending c := ⟨_, rfl⟩
  rw [← hX]
  rw [sending_one, hd] at hX
  have HX := hid hX
  have HB := hid (show QB { q with at_ := q.at_ + 1 } from ⟨hB.S, hB.plain, hB.run, hB.tail, hB.want⟩)
  clear hX hb hr hB hd
  go_enter Tryz.func48, Tryz.ntmps48
  go_wp2_with fail
  refine region_text (by kernel_rfl) (by kernel_rfl) (fun _ _ W => QP w W g gr gr q) H0.out.drew ?_
  clear H0
  iterate 11 ((try simp only [Act.put, List.setIfInBounds_toArray, List.set_cons_zero, List.set_cons_succ]); first
    | (refine t_skip (fun _ => rfl) (fun b γ W h => h) ?_)
    | (refine t_pure ?_ (fun _ => rfl) (fun b γ W h => h) (fun b γ W h _ => ?_) ?_; rotate_left; · (have c9 := (hq h.node).out; have c10 := (hq h.node).at_; go_simp; first | rfl | (simp; done))))
  refine t_end ?_
  intro bq gq w1 hall h1
  clear hall hx hd49 hd49'
  (try simp only [Act.put, List.setIfInBounds_toArray, List.set_cons_zero, List.set_cons_succ])
  have c10 := (hq h1.node).at_
  have f10 := h1.node.frozen 10
  have ew : IntKind.i64.wrap ((q.at_ : Int) + 1) = ((q.at_ + 1 : Nat) : Int) := by rw [IntKind.wrap_i64]; omega
  have h2 : QP w (w1.setCell ⟨g, 10, none⟩ (.int .i64 ((q.at_ + 1 : Nat) : Int))) g gr gr { q with at_ := q.at_ + 1 } := h1.set 10 _ rfl rfl
  have HL := hid (show ({ q with at_ := q.at_ + 1 } : Q7).at_ ≤ ({ q with at_ := q.at_ + 1 } : Q7).out.length ∧ ({ q with at_ := q.at_ + 1 } : Q7).out.length ≤ 1000 ∧ ({ q with at_ := q.at_ + 1 } : Q7).arb ≤ 1000 from ⟨hlt, hlen, harb⟩)
  have e1 : ({ q with at_ := q.at_ + 1 } : Q7).at_ = q.at_ + 1 := rfl
  clear hlt hlen harb
  generalize ({ q with at_ := q.at_ + 1 } : Q7) = q1 at h2 HL HX HB e1
  have H2 := hid h2
  clear h2
  rw [← e1] at ew H2
  clear e1 h1
  go_upto_region 3 with fail
  generalize w1.setCell ⟨g, 10, none⟩ (.int .i64 (q1.at_ : Int)) = w2 at *
  clear c10 f10 ew
  have ek : ((q1.at_ : Int) == (q1.out.length : Int) - 8) = decide (q1.at_ + 8 = q1.out.length) := by rw [Bool.eq_iff_iff]; simp only [beq_iff_eq, decide_eq_true_eq]; omega
  have ek' : ((q1.at_ : Int) = (q1.out.length : Int) - 8) = (q1.at_ + 8 = q1.out.length) := propext (by omega)
  have ea : decide ((q1.at_ : Int) ≤ (q1.arb : Int)) = decide (q1.at_ ≤ q1.arb) := by rw [Bool.eq_iff_iff]; simp only [decide_eq_true_eq]; omega
  have ew : IntKind.i64.wrap ((q1.out.length : Int) - 8) = (q1.out.length : Int) - 8 := by have := HL.out.2.1; rw [IntKind.wrap_i64]; omega
  have EK := hid ek
  have EA := hid ea
  have EW := hid ew
  have HSZ := hid (B_size q1.out)
  have HC := hid (ways_of d c (decide (q1.at_ + 8 = q1.out.length)) (decide (q1.at_ ≤ q1.arb)))
  clear ek ek' ea ew
  generalize hk : decide (q1.at_ + 8 = q1.out.length) = k at EK HC
  generalize ha : decide (q1.at_ ≤ q1.arb) = a at EA HC
  have HK := hid hk
  have HA := hid ha
  have qb : (q1.at_ ≤ q1.arb) = (a = true) := by rw [← ha]; simp
  have qk : (q1.at_ + 8 = q1.out.length) = (k = true) := by rw [← hk]; simp
  have hX := HX.out
  clear HX
  unfold Q7.sent1 at hX
  simp only [qb, qk] at hX
  have HX := hid hX
  clear hk ha qb qk hX
  rcases HC.out with ⟨rfl, rfl, rfl⟩ | ⟨rfl, rfl⟩ | ⟨rfl, hdc⟩ | hD
  · have hX := HX.out
    clear HX HC
    rw [if_pos ⟨rfl, rfl, rfl⟩] at hX
    have HX := hid hX
    clear hX
    refine region_text (by kernel_rfl) (by kernel_rfl) (fun _ _ W => QP w W g gr gr q1) H2.out.drew ?_
    iterate 16 ((try simp only [Act.put, List.setIfInBounds_toArray, List.set_cons_zero, List.set_cons_succ]); first
      | (refine t_skip (fun _ => rfl) (fun b γ W h => h) ?_)
      | (refine t_pure ?_ (fun _ => rfl) (fun b γ W h => h) (fun b γ W h _ => ?_) ?_; rotate_left; · (have c10 := (hq h.node).at_; have c11 := (hq h.node).arb; have q1 := EA.out; go_simp; first | rfl | (simp; done))))
    refine t_end ?_
    intro bq3 gq3 w3 hall3 h3
    (try simp only [Act.put, List.setIfInBounds_toArray, List.set_cons_zero, List.set_cons_succ])
    (try simp only [HA.out])
    clear hall3 H2
    have c3 := (hq h3.node).sender
    have f3 := h3.node.frozen 3
    have h4 : QP w (w3.setCell ⟨g, 3, none⟩ (.bool false)) g gr gr { q1 with sender := false } := h3.set 3 _ rfl rfl
    have HB2 := hid (show QB { q1 with sender := false } from ⟨HB.out.S, HB.out.plain, HB.out.run, HB.out.tail, HB.out.want⟩)
    have e1 : q1.f = ({ q1 with sender := false } : Q7).f := rfl
    have hX := HX.out
    rw [e1] at hX
    clear HX HB HL HA HK EA EK EW HSZ
    generalize ({ q1 with sender := false } : Q7) = q2 at h4 hX HB2 e1
    have HLL := hid (qhearing_len q2 false)
    have HH := hid (fun W h h' => qhearing_calls g gr q2 false W h h' HB2.out)
    have HF3 : (q2.hearing false).1.f = q2.f := qhearing_f q2 false
    generalize q2.hearing false = Z at HH hX HLL HF3
    obtain ⟨q3, L⟩ := Z
    simp only at HH hX HLL HF3
    obtain ⟨x, hx⟩ : ∃ x, x = (⟨3, q2.f, 0⟩ : Ev) := ⟨_, rfl⟩
    rw [← hx] at hX
    have HX := hid hX
    have hxc : [x].flatMap ec = [.int .i64 3, .bool q2.f.e, .int .u32 q2.f.i, .bool q2.f.r, .string q2.f.d, .int .i64 0] := by rw [hx]; rfl
    have HXC := hid hxc
    clear hx hxc hX e1 h3
    have H4 := hid h4
    clear h4
    go_upto_region 5 with fail
    generalize w3.setCell ⟨g, 3, none⟩ (.bool false) = w4 at *
    clear c3 f3
    refine region_text (by kernel_rfl) (by kernel_rfl) (SL w g gr q2 q3 x L) ⟨H4.out.drew, fun h => absurd h Bool.false_ne_true, fun h => absurd h Bool.false_ne_true, fun h => absurd h Bool.false_ne_true, fun h => absurd h Bool.false_ne_true⟩ ?_
    have HF3 := hid HF3
    iterate 5 ((try simp only [Act.put, List.setIfInBounds_toArray, List.set_cons_zero, List.set_cons_succ]); (refine t_pure ?_ (fun _ => rfl) (fun b γ W h => h.up _ (by decide) (by decide) (by decide)) (fun b γ W h _ => ?_) ?_; rotate_left; · (obtain ⟨c5, c6, c7, c8⟩ := h.fr HF3.out; clear h; go_simp; first | rfl | (simp; done))))
    try simp only [Act.put, List.setIfInBounds_toArray, List.set_cons_zero, List.set_cons_succ]
    refine t_build 1 (fun _ => rfl) (fun b γ W h hb hf => ⟨W.alloc (.cells #[.int .i64 3, .bool q2.f.e, .int .u32 q2.f.i, .bool q2.f.r, .string q2.f.d, .int .i64 0] 60), by go_simp, ?_⟩) ?_
    · have h6 : b 9 = false := by
        cases h6 : b 9
        · rfl
        · rw [(h.ord h6).1] at hb; cases hb
      have e5 : Lib.up b 5 8 = b 8 := up_of_ne (by decide)
      have e6 : Lib.up b 5 9 = false := by rw [up_of_ne (by decide), h6]
      have e2 : Lib.up b 5 5 = true := up_at _ _
      have eg : upd γ 5 W.heap.size 5 = W.heap.size := by simp [upd]
      have eg5 : upd γ 5 W.heap.size 8 = γ 8 := by simp [upd]
      refine ⟨by rw [e5]; exact h.node.alloc _, fun k => absurd (e6.symm.trans k) Bool.false_ne_true, fun _ _ => ?_, fun k _ => ?_, fun k => absurd (e6.symm.trans k) Bool.false_ne_true⟩
      · rw [eg]
        exact evs_new (W := W) (L := [x]) (cs := [.int .i64 3, .bool q2.f.e, .int .u32 q2.f.i, .bool q2.f.r, .string q2.f.d, .int .i64 0]) rfl HXC.out.symm h.node.g2.size (Nat.le_of_ble_eq_true rfl)
      · rw [eg5]
        rw [e5] at k
        exact World.ownsRow.alloc (h.ev2 k h6) _
    iterate 2 ((try simp only [Act.put, List.setIfInBounds_toArray, List.set_cons_zero, List.set_cons_succ]); (refine t_pure ?_ (fun _ => rfl) (fun b γ W h => h.up _ (by decide) (by decide) (by decide)) (fun b γ W h _ => ?_) ?_; rotate_left; · (clear h; go_simp; first | rfl | (simp; done))))
    try simp only [Act.put, List.setIfInBounds_toArray, List.set_cons_zero, List.set_cons_succ]
    refine t_callN (f := 49) (args := #[.pointer (some ⟨g, 0, none⟩), .bool false]) (decV L.length) (fun _ => rfl) (fun b γ W h _ => by go_simp) (fun b γ W h hb hf => ?_) ?_
    · have h6 : b 9 = false := hf 9 _ rfl (by decide)
      have e2 : Lib.up b 8 5 = b 5 := up_of_ne (by decide)
      have e6 : Lib.up b 8 9 = false := by rw [up_of_ne (by decide), h6]
      have e5 : Lib.up b 8 8 = true := up_at _ _
      have hn := h.node
      rw [hb, if_neg Bool.false_ne_true] at hn
      refine (HH.out W hn.node hn.rd).mono ?_
      rintro y w5 ⟨v, rfl, hw5, hev⟩
      obtain ⟨k, rfl⟩ := decV_onto hev
      refine ⟨k, rfl, ?_⟩
      have eg5 : upd γ 8 k 8 = k := by simp [upd]
      have eg2 : upd γ 8 k 5 = γ 5 := by simp [upd]
      refine ⟨by rw [e5, if_pos rfl]; exact ⟨hw5.node, hw5.rd, hn.g2.trans hw5.g2 (.inl rfl), .inl rfl⟩, fun k => absurd (e6.symm.trans k) Bool.false_ne_true, fun k2 _ => ?_, fun _ _ => ?_, fun k => absurd (e6.symm.trans k) Bool.false_ne_true⟩
      · rw [eg2]
        rw [e2] at k2
        have he := h.ev1 k2 h6
        refine evs_g2 he hw5.g2 (fun i hi => ?_)
        have hq : w.heap.size ≤ i := (he.lt _ hi).1
        have := HG.out
        omega
      · rw [eg5]
        exact evs_in hev hn.g2.size
    try simp only [Act.put, List.setIfInBounds_toArray, List.set_cons_zero, List.set_cons_succ]
    refine t_runN (decV (x :: L).length) (fun _ => rfl) (fun b γ W h hb hn => ?_) ?_
    · have h2 : b 5 = true := hn 5 (by decide)
      have h5 : b 8 = true := hn 8 (by decide)
      have he1 := h.ev1 h2 hb
      obtain ⟨v', w', r1, r2, r3⟩ := run_app_evs he1 (h.ev2 h5 hb) h.node.g2.size HLL.out
      obtain ⟨k, rfl⟩ := decV_onto r2
      have e2 : Lib.up b 9 5 = true := by rw [up_of_ne (by decide), h2]
      have e5 : Lib.up b 9 8 = true := by rw [up_of_ne (by decide), h5]
      have e6 : Lib.up b 9 9 = true := up_at _ _
      have eg6 : upd γ 9 k 9 = k := by simp [upd]
      have hq : w.heap.size ≤ γ 5 := (he1.lt _ rfl).1
      have hnd := h.node
      rw [h5, if_pos rfl] at hnd
      have hG := HG.out
      refine ⟨k, w', by unfold execOp; simp only [resolve, invoke, builtin, Sem.run_bind, Sem.run_pure, Result.andThen_ok, List.map_toArray, List.map_cons, List.map_nil]; erw [r1]; rfl, ⟨?_, fun _ => ⟨e2, e5⟩, fun _ k => absurd (k.symm.trans e6) Bool.false_ne_true, fun _ k => absurd (k.symm.trans e6) Bool.false_ne_true, fun _ => ?_⟩⟩
      · rw [e5, if_pos rfl]
        exact ⟨hnd.node.grown r3 (by simp only [ne_eq, Option.some.injEq]; omega), hnd.rd.grown r3 (by simp only [ne_eq, Option.some.injEq]; omega), hnd.g2.own r3 (fun i e => by injection e with e; exact .inr (.inr (by omega))), .inl rfl⟩
      · rw [eg6]
        exact r2
    try simp only [Act.put, List.setIfInBounds_toArray, List.set_cons_zero, List.set_cons_succ]
    refine t_addr (fun γ => decV (x :: L).length (γ 9)) (fun γ γ' hg => by simp only; rw [hg 9 (.inr (.one rfl (by decide)))]) (fun γ n => by simp [upd]) (fun _ => rfl) (fun b γ W h => h.up _ (by decide) (by decide) (by decide)) (fun b γ W h _ => by go_simp) ?_
    refine t_end ?_
    intro bq5 gq5 w6 hall5 hS5
    (try simp only [Act.put, List.setIfInBounds_toArray, List.set_cons_zero, List.set_cons_succ])
    have hn := hS5.node
    rw [hall5 8 (by decide), if_pos rfl] at hn
    have hev := hS5.out (hall5 9 (by decide))
    generalize gq5 5 = z2
    generalize gq5 8 = z5
    generalize gq5 9 = z6 at hev ⊢
    have HN6 := hid hn
    have HE6 := hid hev
    clear hS5 hall5 hn hev H4
    generalize decV (x :: L).length z6 = v at HE6 ⊢
    generalize decV L.length z5 = v5
    go_wp2_with fail
    go_ret
    rw [HX.out]
    exact ⟨_, rfl, HN6.out, HE6.out⟩
  · have hX := HX.out
    clear HX HC
    rw [if_neg (by simp), if_pos ⟨rfl, rfl⟩] at hX
    have HX := hid hX
    clear hX
    cases d
    all_goals
      refine region_text (by kernel_rfl) (by kernel_rfl) (fun _ _ W => QP w W g gr gr q1) H2.out.drew ?_
      iterate 16 ((try simp only [Act.put, List.setIfInBounds_toArray, List.set_cons_zero, List.set_cons_succ]); first
        | (refine t_skip (fun _ => rfl) (fun b γ W h => h) ?_)
        | (refine t_pure ?_ (fun _ => rfl) (fun b γ W h => h) (fun b γ W h _ => ?_) ?_; rotate_left; · (have c10 := (hq h.node).at_; have c11 := (hq h.node).arb; have q1 := EA.out; go_simp; first | rfl | (simp; done))))
      refine t_end ?_
      intro bq3 gq3 w3 hall3 h3
      (try simp only [Act.put, List.setIfInBounds_toArray, List.set_cons_zero, List.set_cons_succ])
      (try simp only [HA.out])
      clear hall3 H2
      have H3 := hid h3
      clear h3
      go_wp2_with fail
      refine region_text (by kernel_rfl) (by kernel_rfl) (fun _ _ W => QP w W g gr gr q1) H3.out.drew ?_
      iterate 12 ((try simp only [Act.put, List.setIfInBounds_toArray, List.set_cons_zero, List.set_cons_succ]); first
        | (refine t_skip (fun _ => rfl) (fun b γ W h => h) ?_)
        | (refine t_pure ?_ (fun _ => rfl) (fun b γ W h => h) (fun b γ W h _ => ?_) ?_; rotate_left; · (have c10 := (hq h.node).at_; have c9 := (hq h.node).out; have y1 := HSZ.out; have y2 := EK.out; have y3 := EW.out; go_simp; first | rfl | (simp; done))))
      refine t_end ?_
      intro bq6 gq6 w6 hall6 h6
      (try simp only [Act.put, List.setIfInBounds_toArray, List.set_cons_zero, List.set_cons_succ])
      (try simp only [HK.out])
      clear hall6 H3
      have c14 := (hq h6.node).sent
      have c15 := (hq h6.node).got
      have HS6 := hid h6.g2.size
      have H6 := hid h6
      clear h6
      go_wp2_with fail
      refine (qsent_calls q1.sent q1.got false _).mono ?_
      rintro y w7 ⟨rfl, hb7⟩
      have h7 := H6.out.later hb7
      clear H6 hb7 c14 c15
      have c14 := (hq h7.node).sent
      have c15 := (hq h7.node).got
      have f14 := h7.node.frozen 14
      have f15 := h7.node.frozen 15
      have h8 : QP w ((w7.setCell ⟨g, 14, none⟩ (.int .i64 (sentV q1.sent q1.got false))).setCell ⟨g, 15, none⟩ (.int .i64 q1.got)) g gr gr { q1 with sent := sentV q1.sent q1.got false } :=
        (h7.set (q' := { q1 with sent := sentV q1.sent q1.got false }) 14 _ rfl rfl).set 15 _ rfl rfl
      have H8 := hid h8
      clear h8 h7
      go_upto_region 14 with fail
      generalize (w7.setCell ⟨g, 14, none⟩ (.int .i64 (sentV q1.sent q1.got false))).setCell ⟨g, 15, none⟩ (.int .i64 q1.got) = w8 at *
      clear c14 c15 f14 f15
      have c5 := (hq H8.out.node).fe
      have c6 := (hq H8.out.node).fi
      have c7 := (hq H8.out.node).fr
      have c8 := (hq H8.out.node).fd
      simp only at c5 c6 c7 c8
      go_wp2_with fail
      refine (qbad_calls g gr { q1 with sent := sentV q1.sent q1.got false } ⟨4, q1.f, 71⟩ _ H8.out.node).mono ?_
      rintro y w9 ⟨v, rfl, h9, hev⟩
      have hrr : ((({ q1 with sent := sentV q1.sent q1.got false } : Q7).bad ⟨4, q1.f, 71⟩).1).r = q1.r := by unfold Q7.bad; split <;> rfl
      have H9 := hid (show QP w w9 g gr gr (({ q1 with sent := sentV q1.sent q1.got false } : Q7).bad ⟨4, q1.f, 71⟩).1 from
        ⟨h9.blk, by rw [hrr]; exact H8.out.rd.grown h9.grown (by simp only [ne_eq, Option.some.injEq]; omega), H8.out.g2.own h9.grown (fun i e => by injection e with e; exact .inl e.symm), .inl rfl⟩)
      have HE := hid (evs_in hev H8.out.g2.size)
      clear h9 hev H8 hrr c5 c6 c7 c8
      go_wp2_with fail
      go_ret
      rw [HX.out]
      exact ⟨_, rfl, H9.out, HE.out⟩
  · clear HC
    rcases hdc with ⟨rfl, rfl, rfl⟩ | ⟨rfl, rfl⟩
    all_goals
      have hX := HX.out
      clear HX
      rw [if_neg (by simp), if_neg (by simp), if_pos ⟨by simp, by simp⟩] at hX
      have HX := hid hX
      clear hX
      refine region_text (by kernel_rfl) (by kernel_rfl) (fun _ _ W => QP w W g gr gr q1) H2.out.drew ?_
      iterate 16 ((try simp only [Act.put, List.setIfInBounds_toArray, List.set_cons_zero, List.set_cons_succ]); first
        | (refine t_skip (fun _ => rfl) (fun b γ W h => h) ?_)
        | (refine t_pure ?_ (fun _ => rfl) (fun b γ W h => h) (fun b γ W h _ => ?_) ?_; rotate_left; · (have c10 := (hq h.node).at_; have c11 := (hq h.node).arb; have q1 := EA.out; go_simp; first | rfl | (simp; done))))
      refine t_end ?_
      intro bq3 gq3 w3 hall3 h3
      (try simp only [Act.put, List.setIfInBounds_toArray, List.set_cons_zero, List.set_cons_succ])
      (try simp only [HA.out])
      clear hall3 H2
      have H3 := hid h3
      clear h3
      go_wp2_with fail
      refine region_text (by kernel_rfl) (by kernel_rfl) (fun _ _ W => QP w W g gr gr q1) H3.out.drew ?_
      iterate 12 ((try simp only [Act.put, List.setIfInBounds_toArray, List.set_cons_zero, List.set_cons_succ]); first
        | (refine t_skip (fun _ => rfl) (fun b γ W h => h) ?_)
        | (refine t_pure ?_ (fun _ => rfl) (fun b γ W h => h) (fun b γ W h _ => ?_) ?_; rotate_left; · (have c10 := (hq h.node).at_; have c9 := (hq h.node).out; have y1 := HSZ.out; have y2 := EK.out; have y3 := EW.out; go_simp; first | rfl | (simp; done))))
      refine t_end ?_
      intro bq6 gq6 w6 hall6 h6
      (try simp only [Act.put, List.setIfInBounds_toArray, List.set_cons_zero, List.set_cons_succ])
      (try simp only [HK.out])
      clear hall6 H3
      have c14 := (hq h6.node).sent
      have c15 := (hq h6.node).got
      have HS6 := hid h6.g2.size
      have H6 := hid h6
      clear h6
      go_wp2_with fail
      refine (qsent_calls q1.sent q1.got false _).mono ?_
      rintro y w7 ⟨rfl, hb7⟩
      have h7 := H6.out.later hb7
      clear H6 hb7 c14 c15
      have c14 := (hq h7.node).sent
      have c15 := (hq h7.node).got
      have f14 := h7.node.frozen 14
      have f15 := h7.node.frozen 15
      have h8 : QP w ((w7.setCell ⟨g, 14, none⟩ (.int .i64 (sentV q1.sent q1.got false))).setCell ⟨g, 15, none⟩ (.int .i64 q1.got)) g gr gr { q1 with sent := sentV q1.sent q1.got false } :=
        (h7.set (q' := { q1 with sent := sentV q1.sent q1.got false }) 14 _ rfl rfl).set 15 _ rfl rfl
      have H8 := hid h8
      clear h8 h7
      go_upto_region 14 with fail
      generalize (w7.setCell ⟨g, 14, none⟩ (.int .i64 (sentV q1.sent q1.got false))).setCell ⟨g, 15, none⟩ (.int .i64 q1.got) = w8 at *
      clear c14 c15 f14 f15
      have c5 := (hq H8.out.node).fe
      have c6 := (hq H8.out.node).fi
      have c7 := (hq H8.out.node).fr
      have c8 := (hq H8.out.node).fd
      simp only at c5 c6 c7 c8
      go_wp2_with fail
      refine (qbad_calls g gr { q1 with sent := sentV q1.sent q1.got false } ⟨4, q1.f, 70⟩ _ H8.out.node).mono ?_
      rintro y w9 ⟨v, rfl, h9, hev⟩
      have hrr : ((({ q1 with sent := sentV q1.sent q1.got false } : Q7).bad ⟨4, q1.f, 70⟩).1).r = q1.r := by unfold Q7.bad; split <;> rfl
      have H9 := hid (show QP w w9 g gr gr (({ q1 with sent := sentV q1.sent q1.got false } : Q7).bad ⟨4, q1.f, 70⟩).1 from
        ⟨h9.blk, by rw [hrr]; exact H8.out.rd.grown h9.grown (by simp only [ne_eq, Option.some.injEq]; omega), H8.out.g2.own h9.grown (fun i e => by injection e with e; exact .inl e.symm), .inl rfl⟩)
      have HE := hid (evs_in hev H8.out.g2.size)
      clear h9 hev H8 hrr c5 c6 c7 c8
      go_wp2_with fail
      go_ret
      rw [HX.out]
      exact ⟨_, rfl, H9.out, HE.out⟩
  · clear HC
    rcases hD with ⟨rfl, rfl, rfl, rfl⟩ | ⟨rfl, rfl, rfl⟩ | ⟨rfl, rfl, rfl⟩ | ⟨rfl, rfl, rfl⟩
    · have hX := HX.out
      clear HX
      rw [if_neg (by simp), if_neg (by simp), if_neg (by simp)] at hX
      have HX := hid hX
      clear hX
      refine region_text (by kernel_rfl) (by kernel_rfl) (fun _ _ W => QP w W g gr gr q1) H2.out.drew ?_
      iterate 16 ((try simp only [Act.put, List.setIfInBounds_toArray, List.set_cons_zero, List.set_cons_succ]); first
        | (refine t_skip (fun _ => rfl) (fun b γ W h => h) ?_)
        | (refine t_pure ?_ (fun _ => rfl) (fun b γ W h => h) (fun b γ W h _ => ?_) ?_; rotate_left; · (have c10 := (hq h.node).at_; have c11 := (hq h.node).arb; have q1 := EA.out; go_simp; first | rfl | (simp; done))))
      refine t_end ?_
      intro bq3 gq3 w3 hall3 h3
      (try simp only [Act.put, List.setIfInBounds_toArray, List.set_cons_zero, List.set_cons_succ])
      (try simp only [HA.out])
      clear hall3 H2
      have H3 := hid h3
      clear h3
      go_wp2_with fail
      refine region_text (by kernel_rfl) (by kernel_rfl) (fun _ _ W => QP w W g gr gr q1) H3.out.drew ?_
      iterate 12 ((try simp only [Act.put, List.setIfInBounds_toArray, List.set_cons_zero, List.set_cons_succ]); first
        | (refine t_skip (fun _ => rfl) (fun b γ W h => h) ?_)
        | (refine t_pure ?_ (fun _ => rfl) (fun b γ W h => h) (fun b γ W h _ => ?_) ?_; rotate_left; · (have c10 := (hq h.node).at_; have c9 := (hq h.node).out; have y1 := HSZ.out; have y2 := EK.out; have y3 := EW.out; go_simp; first | rfl | (simp; done))))
      refine t_end ?_
      intro bq6 gq6 w6 hall6 h6
      (try simp only [Act.put, List.setIfInBounds_toArray, List.set_cons_zero, List.set_cons_succ])
      (try simp only [HK.out])
      clear hall6 H3
      have H6 := hid h6
      clear h6
      go_wp2_with fail
      have hx0 : ∀ W, (Instr.index 9 (.string (B [false])) (.int .i64 0)).run Tryz.prog W = .ok (.int .u8 ((sg false).toNat : Int)) W := idx_at [false] 0 (by simp)
      have hy : (((sg false).toNat : Int) == 49) = false := rfl
      refine region_text (by kernel_rfl) (by kernel_rfl) (HeIn w g gr q1 false) ⟨H6.out.node.drew, H6.out.rd.drew, H6.out.g2.drew⟩ ?_
      iterate 8 ((try simp only [Act.put, List.setIfInBounds_toArray, List.set_cons_zero, List.set_cons_succ]); first
        | (refine t_skip (fun _ => rfl) (fun b γ W h => h) ?_)
        | (refine t_call (.string (B [false])) (fun _ => rfl) (f := 74) (args := #[.bool false]) ?_ (fun b γ W h _ => (bit_calls false W).mono (fun e w2 h2 => ⟨h2.1, ⟨h.node.below h2.2, by rw [up_of_ne (by decide)]; exact h.rd.below h2.2, h.g2.own (o := none) (grown_of_below h2.2) (fun i e => by cases e)⟩⟩)) ?_; · (intro b γ W h _; go_simp; done))
        | (refine t_call (.int .i64 ((q1.r.next false).2 : Int)) (fun _ => rfl) (f := 68) (args := #[.pointer (some ⟨gr, 0, none⟩), .int .u8 ((sg false).toNat : Int)]) ?_ (fun b γ W h hb7 => (rnext3_calls gr q1.r false _ W (by have := h.rd; rw [hb7] at this; exact this) hy (by have := HB.out.S; omega) (by have := HB.out.plain; omega) (by have := HB.out.run; omega) (by have := HB.out.tail; omega) (by have := HB.out.want; omega)).mono (fun e w2 h2 => ⟨h2.1, ⟨h.node.grown h2.2.grown (by simp only [ne_eq, Option.some.injEq]; omega), by rw [up_at]; exact h2.2.blk, h.g2.own h2.2.grown (fun i e => by injection e with e; exact .inr (.inl e.symm))⟩⟩)) ?_; · (intro b γ W h _; go_simp; done))
        | (refine t_pure ?_ (fun _ => rfl) (fun b γ W h => ⟨h.node, by rw [up_of_ne (by decide)]; exact h.rd, h.g2⟩) (fun b γ W h _ => ?_) ?_; rotate_left; · (have c12 := (hq h.node).r; go_simp; first | rfl | (simp; done))))
      refine t_end ?_
      intro bq9 gq9 w9 hall9 hS9
      have hrd := hS9.rd
      rw [hall9 7 (by decide), if_pos rfl] at hrd
      have hnd := hS9.node
      have hg2 := hS9.g2
      clear hall9 hS9 hx0 hy H6
      (try simp only [Act.put, List.setIfInBounds_toArray, List.set_cons_zero, List.set_cons_succ])
      have hX := HX.out
      clear HX
      generalize hN : q1.r.next false = n at hrd hX ⊢
      obtain ⟨r1, e1⟩ := n
      simp only at hrd hX
      have H9 := hid (show QP w w9 g gr gr { q1 with r := r1 } from ⟨hnd, hrd, hg2, .inl rfl⟩)
      clear hnd hrd hg2 hN
      obtain ⟨z, hz⟩ : ∃ z, decide (q1.at_ = q1.out.length) = z := ⟨_, rfl⟩
      have HZ := hid hz
      have HE := hid (show ((q1.at_ : Int) == (q1.out.length : Int)) = z by rw [← hz, Bool.eq_iff_iff]; simp only [beq_iff_eq, decide_eq_true_eq]; omega)
      have qz : (q1.at_ = q1.out.length) = (z = true) := by rw [← hz]; simp
      simp only [qz] at hX
      have HX := hid hX
      clear hX hz qz
      go_wp2_with fail
      refine region_text (by kernel_rfl) (by kernel_rfl) (fun _ _ W => QP w W g gr gr { q1 with r := r1 }) H9.out.drew ?_
      iterate 10 ((try simp only [Act.put, List.setIfInBounds_toArray, List.set_cons_zero, List.set_cons_succ]); first
        | (refine t_skip (fun _ => rfl) (fun b γ W h => h) ?_)
        | (refine t_pure ?_ (fun _ => rfl) (fun b γ W h => h) (fun b γ W h _ => ?_) ?_; rotate_left; · (have c10 := (hq h.node).at_; have c9 := (hq h.node).out; simp only at c9 c10; have y1 := HSZ.out; have y2 := HE.out; go_simp; first | rfl | (simp; done))))
      refine t_end ?_
      intro bqa gqa wa halla ha
      (try simp only [Act.put, List.setIfInBounds_toArray, List.set_cons_zero, List.set_cons_succ])
      (try simp only [HZ.out])
      have HA9 := hid ha
      clear halla ha H9
      have hX := HX.out
      clear HX
      cases z
      · rw [if_neg (by decide)] at hX
        have HX := hid hX
        clear hX
        go_wp2_with fail
        go_ret
        rw [HX.out]
        exact ⟨_, rfl, HA9.out, evs_nil _ _⟩
      · rw [if_pos rfl] at hX
        have HX := hid hX
        clear hX
        have c14 := (hq HA9.out.node).sent
        have c15 := (hq HA9.out.node).got
        simp only at c14 c15
        go_wp2_with fail
        refine (qsent_calls q1.sent q1.got true _).mono ?_
        rintro y w7 ⟨rfl, hb7⟩
        have h7 := HA9.out.later hb7
        clear HA9 hb7 c14 c15
        have c14 := (hq h7.node).sent
        have c15 := (hq h7.node).got
        have f14 := h7.node.frozen 14
        have f15 := h7.node.frozen 15
        have c3 := (hq h7.node).sender
        have f3 := h7.node.frozen 3
        simp only at c14 c15 c3
        have h8 : QP w (((w7.setCell ⟨g, 14, none⟩ (.int .i64 (sentV q1.sent q1.got true))).setCell ⟨g, 15, none⟩ (.int .i64 q1.got)).setCell ⟨g, 3, none⟩ (.bool false)) g gr gr { q1 with r := r1, sent := sentV q1.sent q1.got true, sender := false } :=
          ((h7.set (q' := { q1 with r := r1, sent := sentV q1.sent q1.got true }) 14 _ rfl rfl).set (q' := { q1 with r := r1, sent := sentV q1.sent q1.got true }) 15 _ rfl rfl).set 3 _ rfl rfl
        have H8 := hid h8
        clear h8 h7
        go_upto_region 19 with fail
        generalize ((w7.setCell ⟨g, 14, none⟩ (.int .i64 (sentV q1.sent q1.got true))).setCell ⟨g, 15, none⟩ (.int .i64 q1.got)).setCell ⟨g, 3, none⟩ (.bool false) = w8 at *
        clear c14 c15 f14 f15 c3 f3
        go_wp2_with fail
        refine (qpause_calls g gr _ _ H8.out.node).mono ?_
        rintro y wb ⟨rfl, hb⟩
        have hb' : QP w wb g gr gr (Q7.pause { q1 with r := r1, sent := sentV q1.sent q1.got true, sender := false }) :=
          ⟨hb.blk, H8.out.rd.grown hb.grown (by simp only [ne_eq, Option.some.injEq]; omega), H8.out.g2.own hb.grown (fun i e => by injection e with e; exact .inl e.symm), .inl rfl⟩
        have HBB := hid hb'
        clear hb hb' H8
        have c5 := (hq HBB.out.node).fe
        have c6 := (hq HBB.out.node).fi
        have c7 := (hq HBB.out.node).fr
        have c8 := (hq HBB.out.node).fd
        simp only [Q7.pause] at c5 c6 c7 c8
        go_wp2_with fail
        go_ret
        rw [HX.out]
        refine ⟨_, rfl, HBB.out.alloc _, ?_⟩
        exact evs_new (L := [⟨1, q1.f, 0⟩]) (cs := ec ⟨1, q1.f, 0⟩) rfl (List.append_nil _).symm HBB.out.g2.size (by simp)
    · have hX := HX.out
      clear HX
      rw [if_neg (by simp), if_neg (by simp), if_neg (by simp)] at hX
      have HX := hid hX
      clear hX
      refine region_text (by kernel_rfl) (by kernel_rfl) (fun _ _ W => QP w W g gr gr q1) H2.out.drew ?_
      iterate 16 ((try simp only [Act.put, List.setIfInBounds_toArray, List.set_cons_zero, List.set_cons_succ]); first
        | (refine t_skip (fun _ => rfl) (fun b γ W h => h) ?_)
        | (refine t_pure ?_ (fun _ => rfl) (fun b γ W h => h) (fun b γ W h _ => ?_) ?_; rotate_left; · (have c10 := (hq h.node).at_; have c11 := (hq h.node).arb; have q1 := EA.out; go_simp; first | rfl | (simp; done))))
      refine t_end ?_
      intro bq3 gq3 w3 hall3 h3
      (try simp only [Act.put, List.setIfInBounds_toArray, List.set_cons_zero, List.set_cons_succ])
      (try simp only [HA.out])
      clear hall3 H2
      have H3 := hid h3
      clear h3
      go_wp2_with fail
      refine region_text (by kernel_rfl) (by kernel_rfl) (fun _ _ W => QP w W g gr gr q1) H3.out.drew ?_
      iterate 12 ((try simp only [Act.put, List.setIfInBounds_toArray, List.set_cons_zero, List.set_cons_succ]); first
        | (refine t_skip (fun _ => rfl) (fun b γ W h => h) ?_)
        | (refine t_pure ?_ (fun _ => rfl) (fun b γ W h => h) (fun b γ W h _ => ?_) ?_; rotate_left; · (have c10 := (hq h.node).at_; have c9 := (hq h.node).out; have y1 := HSZ.out; have y2 := EK.out; have y3 := EW.out; go_simp; first | rfl | (simp; done))))
      refine t_end ?_
      intro bq6 gq6 w6 hall6 h6
      (try simp only [Act.put, List.setIfInBounds_toArray, List.set_cons_zero, List.set_cons_succ])
      (try simp only [HK.out])
      clear hall6 H3
      have H6 := hid h6
      clear h6
      go_wp2_with fail
      have hx0 : ∀ W, (Instr.index 9 (.string (B [true])) (.int .i64 0)).run Tryz.prog W = .ok (.int .u8 ((sg true).toNat : Int)) W := idx_at [true] 0 (by simp)
      have hy : (((sg true).toNat : Int) == 49) = true := rfl
      refine region_text (by kernel_rfl) (by kernel_rfl) (HeIn w g gr q1 true) ⟨H6.out.node.drew, H6.out.rd.drew, H6.out.g2.drew⟩ ?_
      iterate 8 ((try simp only [Act.put, List.setIfInBounds_toArray, List.set_cons_zero, List.set_cons_succ]); first
        | (refine t_skip (fun _ => rfl) (fun b γ W h => h) ?_)
        | (refine t_call (.string (B [true])) (fun _ => rfl) (f := 74) (args := #[.bool true]) ?_ (fun b γ W h _ => (bit_calls true W).mono (fun e w2 h2 => ⟨h2.1, ⟨h.node.below h2.2, by rw [up_of_ne (by decide)]; exact h.rd.below h2.2, h.g2.own (o := none) (grown_of_below h2.2) (fun i e => by cases e)⟩⟩)) ?_; · (intro b γ W h _; go_simp; done))
        | (refine t_call (.int .i64 ((q1.r.next true).2 : Int)) (fun _ => rfl) (f := 68) (args := #[.pointer (some ⟨gr, 0, none⟩), .int .u8 ((sg true).toNat : Int)]) ?_ (fun b γ W h hb7 => (rnext3_calls gr q1.r true _ W (by have := h.rd; rw [hb7] at this; exact this) hy (by have := HB.out.S; omega) (by have := HB.out.plain; omega) (by have := HB.out.run; omega) (by have := HB.out.tail; omega) (by have := HB.out.want; omega)).mono (fun e w2 h2 => ⟨h2.1, ⟨h.node.grown h2.2.grown (by simp only [ne_eq, Option.some.injEq]; omega), by rw [up_at]; exact h2.2.blk, h.g2.own h2.2.grown (fun i e => by injection e with e; exact .inr (.inl e.symm))⟩⟩)) ?_; · (intro b γ W h _; go_simp; done))
        | (refine t_pure ?_ (fun _ => rfl) (fun b γ W h => ⟨h.node, by rw [up_of_ne (by decide)]; exact h.rd, h.g2⟩) (fun b γ W h _ => ?_) ?_; rotate_left; · (have c12 := (hq h.node).r; go_simp; first | rfl | (simp; done))))
      refine t_end ?_
      intro bq9 gq9 w9 hall9 hS9
      have hrd := hS9.rd
      rw [hall9 7 (by decide), if_pos rfl] at hrd
      have hnd := hS9.node
      have hg2 := hS9.g2
      clear hall9 hS9 hx0 hy H6
      (try simp only [Act.put, List.setIfInBounds_toArray, List.set_cons_zero, List.set_cons_succ])
      have hX := HX.out
      clear HX
      generalize hN : q1.r.next true = n at hrd hX ⊢
      obtain ⟨r1, e1⟩ := n
      simp only at hrd hX
      have H9 := hid (show QP w w9 g gr gr { q1 with r := r1 } from ⟨hnd, hrd, hg2, .inl rfl⟩)
      clear hnd hrd hg2 hN
      obtain ⟨z, hz⟩ : ∃ z, decide (q1.at_ = q1.out.length) = z := ⟨_, rfl⟩
      have HZ := hid hz
      have HE := hid (show ((q1.at_ : Int) == (q1.out.length : Int)) = z by rw [← hz, Bool.eq_iff_iff]; simp only [beq_iff_eq, decide_eq_true_eq]; omega)
      have qz : (q1.at_ = q1.out.length) = (z = true) := by rw [← hz]; simp
      simp only [qz] at hX
      have HX := hid hX
      clear hX hz qz
      go_wp2_with fail
      refine region_text (by kernel_rfl) (by kernel_rfl) (fun _ _ W => QP w W g gr gr { q1 with r := r1 }) H9.out.drew ?_
      iterate 10 ((try simp only [Act.put, List.setIfInBounds_toArray, List.set_cons_zero, List.set_cons_succ]); first
        | (refine t_skip (fun _ => rfl) (fun b γ W h => h) ?_)
        | (refine t_pure ?_ (fun _ => rfl) (fun b γ W h => h) (fun b γ W h _ => ?_) ?_; rotate_left; · (have c10 := (hq h.node).at_; have c9 := (hq h.node).out; simp only at c9 c10; have y1 := HSZ.out; have y2 := HE.out; go_simp; first | rfl | (simp; done))))
      refine t_end ?_
      intro bqa gqa wa halla ha
      (try simp only [Act.put, List.setIfInBounds_toArray, List.set_cons_zero, List.set_cons_succ])
      (try simp only [HZ.out])
      have HA9 := hid ha
      clear halla ha H9
      have hX := HX.out
      clear HX
      cases z
      · rw [if_neg (by decide)] at hX
        have HX := hid hX
        clear hX
        go_wp2_with fail
        go_ret
        rw [HX.out]
        exact ⟨_, rfl, HA9.out, evs_nil _ _⟩
      · rw [if_pos rfl] at hX
        have HX := hid hX
        clear hX
        have c14 := (hq HA9.out.node).sent
        have c15 := (hq HA9.out.node).got
        simp only at c14 c15
        go_wp2_with fail
        refine (qsent_calls q1.sent q1.got true _).mono ?_
        rintro y w7 ⟨rfl, hb7⟩
        have h7 := HA9.out.later hb7
        clear HA9 hb7 c14 c15
        have c14 := (hq h7.node).sent
        have c15 := (hq h7.node).got
        have f14 := h7.node.frozen 14
        have f15 := h7.node.frozen 15
        have c3 := (hq h7.node).sender
        have f3 := h7.node.frozen 3
        simp only at c14 c15 c3
        have h8 : QP w (((w7.setCell ⟨g, 14, none⟩ (.int .i64 (sentV q1.sent q1.got true))).setCell ⟨g, 15, none⟩ (.int .i64 q1.got)).setCell ⟨g, 3, none⟩ (.bool false)) g gr gr { q1 with r := r1, sent := sentV q1.sent q1.got true, sender := false } :=
          ((h7.set (q' := { q1 with r := r1, sent := sentV q1.sent q1.got true }) 14 _ rfl rfl).set (q' := { q1 with r := r1, sent := sentV q1.sent q1.got true }) 15 _ rfl rfl).set 3 _ rfl rfl
        have H8 := hid h8
        clear h8 h7
        go_upto_region 19 with fail
        generalize ((w7.setCell ⟨g, 14, none⟩ (.int .i64 (sentV q1.sent q1.got true))).setCell ⟨g, 15, none⟩ (.int .i64 q1.got)).setCell ⟨g, 3, none⟩ (.bool false) = w8 at *
        clear c14 c15 f14 f15 c3 f3
        go_wp2_with fail
        refine (qpause_calls g gr _ _ H8.out.node).mono ?_
        rintro y wb ⟨rfl, hb⟩
        have hb' : QP w wb g gr gr (Q7.pause { q1 with r := r1, sent := sentV q1.sent q1.got true, sender := false }) :=
          ⟨hb.blk, H8.out.rd.grown hb.grown (by simp only [ne_eq, Option.some.injEq]; omega), H8.out.g2.own hb.grown (fun i e => by injection e with e; exact .inl e.symm), .inl rfl⟩
        have HBB := hid hb'
        clear hb hb' H8
        have c5 := (hq HBB.out.node).fe
        have c6 := (hq HBB.out.node).fi
        have c7 := (hq HBB.out.node).fr
        have c8 := (hq HBB.out.node).fd
        simp only [Q7.pause] at c5 c6 c7 c8
        go_wp2_with fail
        go_ret
        rw [HX.out]
        refine ⟨_, rfl, HBB.out.alloc _, ?_⟩
        exact evs_new (L := [⟨1, q1.f, 0⟩]) (cs := ec ⟨1, q1.f, 0⟩) rfl (List.append_nil _).symm HBB.out.g2.size (by simp)
    · have hX := HX.out
      clear HX
      rw [if_neg (by simp), if_neg (by simp), if_neg (by simp)] at hX
      have HX := hid hX
      clear hX
      refine region_text (by kernel_rfl) (by kernel_rfl) (fun _ _ W => QP w W g gr gr q1) H2.out.drew ?_
      iterate 16 ((try simp only [Act.put, List.setIfInBounds_toArray, List.set_cons_zero, List.set_cons_succ]); first
        | (refine t_skip (fun _ => rfl) (fun b γ W h => h) ?_)
        | (refine t_pure ?_ (fun _ => rfl) (fun b γ W h => h) (fun b γ W h _ => ?_) ?_; rotate_left; · (have c10 := (hq h.node).at_; have c11 := (hq h.node).arb; have q1 := EA.out; go_simp; first | rfl | (simp; done))))
      refine t_end ?_
      intro bq3 gq3 w3 hall3 h3
      (try simp only [Act.put, List.setIfInBounds_toArray, List.set_cons_zero, List.set_cons_succ])
      (try simp only [HA.out])
      clear hall3 H2
      have H3 := hid h3
      clear h3
      go_wp2_with fail
      refine region_text (by kernel_rfl) (by kernel_rfl) (fun _ _ W => QP w W g gr gr q1) H3.out.drew ?_
      iterate 12 ((try simp only [Act.put, List.setIfInBounds_toArray, List.set_cons_zero, List.set_cons_succ]); first
        | (refine t_skip (fun _ => rfl) (fun b γ W h => h) ?_)
        | (refine t_pure ?_ (fun _ => rfl) (fun b γ W h => h) (fun b γ W h _ => ?_) ?_; rotate_left; · (have c10 := (hq h.node).at_; have c9 := (hq h.node).out; have y1 := HSZ.out; have y2 := EK.out; have y3 := EW.out; go_simp; first | rfl | (simp; done))))
      refine t_end ?_
      intro bq6 gq6 w6 hall6 h6
      (try simp only [Act.put, List.setIfInBounds_toArray, List.set_cons_zero, List.set_cons_succ])
      (try simp only [HK.out])
      clear hall6 H3
      have H6 := hid h6
      clear h6
      go_wp2_with fail
      have hx0 : ∀ W, (Instr.index 9 (.string (B [false])) (.int .i64 0)).run Tryz.prog W = .ok (.int .u8 ((sg false).toNat : Int)) W := idx_at [false] 0 (by simp)
      have hy : (((sg false).toNat : Int) == 49) = false := rfl
      refine region_text (by kernel_rfl) (by kernel_rfl) (HeIn w g gr q1 false) ⟨H6.out.node.drew, H6.out.rd.drew, H6.out.g2.drew⟩ ?_
      iterate 8 ((try simp only [Act.put, List.setIfInBounds_toArray, List.set_cons_zero, List.set_cons_succ]); first
        | (refine t_skip (fun _ => rfl) (fun b γ W h => h) ?_)
        | (refine t_call (.string (B [false])) (fun _ => rfl) (f := 74) (args := #[.bool false]) ?_ (fun b γ W h _ => (bit_calls false W).mono (fun e w2 h2 => ⟨h2.1, ⟨h.node.below h2.2, by rw [up_of_ne (by decide)]; exact h.rd.below h2.2, h.g2.own (o := none) (grown_of_below h2.2) (fun i e => by cases e)⟩⟩)) ?_; · (intro b γ W h _; go_simp; done))
        | (refine t_call (.int .i64 ((q1.r.next false).2 : Int)) (fun _ => rfl) (f := 68) (args := #[.pointer (some ⟨gr, 0, none⟩), .int .u8 ((sg false).toNat : Int)]) ?_ (fun b γ W h hb7 => (rnext3_calls gr q1.r false _ W (by have := h.rd; rw [hb7] at this; exact this) hy (by have := HB.out.S; omega) (by have := HB.out.plain; omega) (by have := HB.out.run; omega) (by have := HB.out.tail; omega) (by have := HB.out.want; omega)).mono (fun e w2 h2 => ⟨h2.1, ⟨h.node.grown h2.2.grown (by simp only [ne_eq, Option.some.injEq]; omega), by rw [up_at]; exact h2.2.blk, h.g2.own h2.2.grown (fun i e => by injection e with e; exact .inr (.inl e.symm))⟩⟩)) ?_; · (intro b γ W h _; go_simp; done))
        | (refine t_pure ?_ (fun _ => rfl) (fun b γ W h => ⟨h.node, by rw [up_of_ne (by decide)]; exact h.rd, h.g2⟩) (fun b γ W h _ => ?_) ?_; rotate_left; · (have c12 := (hq h.node).r; go_simp; first | rfl | (simp; done))))
      refine t_end ?_
      intro bq9 gq9 w9 hall9 hS9
      have hrd := hS9.rd
      rw [hall9 7 (by decide), if_pos rfl] at hrd
      have hnd := hS9.node
      have hg2 := hS9.g2
      clear hall9 hS9 hx0 hy H6
      (try simp only [Act.put, List.setIfInBounds_toArray, List.set_cons_zero, List.set_cons_succ])
      have hX := HX.out
      clear HX
      generalize hN : q1.r.next false = n at hrd hX ⊢
      obtain ⟨r1, e1⟩ := n
      simp only at hrd hX
      have H9 := hid (show QP w w9 g gr gr { q1 with r := r1 } from ⟨hnd, hrd, hg2, .inl rfl⟩)
      clear hnd hrd hg2 hN
      obtain ⟨z, hz⟩ : ∃ z, decide (q1.at_ = q1.out.length) = z := ⟨_, rfl⟩
      have HZ := hid hz
      have HE := hid (show ((q1.at_ : Int) == (q1.out.length : Int)) = z by rw [← hz, Bool.eq_iff_iff]; simp only [beq_iff_eq, decide_eq_true_eq]; omega)
      have qz : (q1.at_ = q1.out.length) = (z = true) := by rw [← hz]; simp
      simp only [qz] at hX
      have HX := hid hX
      clear hX hz qz
      go_wp2_with fail
      refine region_text (by kernel_rfl) (by kernel_rfl) (fun _ _ W => QP w W g gr gr { q1 with r := r1 }) H9.out.drew ?_
      iterate 10 ((try simp only [Act.put, List.setIfInBounds_toArray, List.set_cons_zero, List.set_cons_succ]); first
        | (refine t_skip (fun _ => rfl) (fun b γ W h => h) ?_)
        | (refine t_pure ?_ (fun _ => rfl) (fun b γ W h => h) (fun b γ W h _ => ?_) ?_; rotate_left; · (have c10 := (hq h.node).at_; have c9 := (hq h.node).out; simp only at c9 c10; have y1 := HSZ.out; have y2 := HE.out; go_simp; first | rfl | (simp; done))))
      refine t_end ?_
      intro bqa gqa wa halla ha
      (try simp only [Act.put, List.setIfInBounds_toArray, List.set_cons_zero, List.set_cons_succ])
      (try simp only [HZ.out])
      have HA9 := hid ha
      clear halla ha H9
      have hX := HX.out
      clear HX
      cases z
      · rw [if_neg (by decide)] at hX
        have HX := hid hX
        clear hX
        go_wp2_with fail
        go_ret
        rw [HX.out]
        exact ⟨_, rfl, HA9.out, evs_nil _ _⟩
      · rw [if_pos rfl] at hX
        have HX := hid hX
        clear hX
        have c14 := (hq HA9.out.node).sent
        have c15 := (hq HA9.out.node).got
        simp only at c14 c15
        go_wp2_with fail
        refine (qsent_calls q1.sent q1.got true _).mono ?_
        rintro y w7 ⟨rfl, hb7⟩
        have h7 := HA9.out.later hb7
        clear HA9 hb7 c14 c15
        have c14 := (hq h7.node).sent
        have c15 := (hq h7.node).got
        have f14 := h7.node.frozen 14
        have f15 := h7.node.frozen 15
        have c3 := (hq h7.node).sender
        have f3 := h7.node.frozen 3
        simp only at c14 c15 c3
        have h8 : QP w (((w7.setCell ⟨g, 14, none⟩ (.int .i64 (sentV q1.sent q1.got true))).setCell ⟨g, 15, none⟩ (.int .i64 q1.got)).setCell ⟨g, 3, none⟩ (.bool false)) g gr gr { q1 with r := r1, sent := sentV q1.sent q1.got true, sender := false } :=
          ((h7.set (q' := { q1 with r := r1, sent := sentV q1.sent q1.got true }) 14 _ rfl rfl).set (q' := { q1 with r := r1, sent := sentV q1.sent q1.got true }) 15 _ rfl rfl).set 3 _ rfl rfl
        have H8 := hid h8
        clear h8 h7
        go_upto_region 19 with fail
        generalize ((w7.setCell ⟨g, 14, none⟩ (.int .i64 (sentV q1.sent q1.got true))).setCell ⟨g, 15, none⟩ (.int .i64 q1.got)).setCell ⟨g, 3, none⟩ (.bool false) = w8 at *
        clear c14 c15 f14 f15 c3 f3
        go_wp2_with fail
        refine (qpause_calls g gr _ _ H8.out.node).mono ?_
        rintro y wb ⟨rfl, hb⟩
        have hb' : QP w wb g gr gr (Q7.pause { q1 with r := r1, sent := sentV q1.sent q1.got true, sender := false }) :=
          ⟨hb.blk, H8.out.rd.grown hb.grown (by simp only [ne_eq, Option.some.injEq]; omega), H8.out.g2.own hb.grown (fun i e => by injection e with e; exact .inl e.symm), .inl rfl⟩
        have HBB := hid hb'
        clear hb hb' H8
        have c5 := (hq HBB.out.node).fe
        have c6 := (hq HBB.out.node).fi
        have c7 := (hq HBB.out.node).fr
        have c8 := (hq HBB.out.node).fd
        simp only [Q7.pause] at c5 c6 c7 c8
        go_wp2_with fail
        go_ret
        rw [HX.out]
        refine ⟨_, rfl, HBB.out.alloc _, ?_⟩
        exact evs_new (L := [⟨1, q1.f, 0⟩]) (cs := ec ⟨1, q1.f, 0⟩) rfl (List.append_nil _).symm HBB.out.g2.size (by simp)
    · have hX := HX.out
      clear HX
      rw [if_neg (by simp), if_neg (by simp), if_neg (by simp)] at hX
      have HX := hid hX
      clear hX
      refine region_text (by kernel_rfl) (by kernel_rfl) (fun _ _ W => QP w W g gr gr q1) H2.out.drew ?_
      iterate 16 ((try simp only [Act.put, List.setIfInBounds_toArray, List.set_cons_zero, List.set_cons_succ]); first
        | (refine t_skip (fun _ => rfl) (fun b γ W h => h) ?_)
        | (refine t_pure ?_ (fun _ => rfl) (fun b γ W h => h) (fun b γ W h _ => ?_) ?_; rotate_left; · (have c10 := (hq h.node).at_; have c11 := (hq h.node).arb; have q1 := EA.out; go_simp; first | rfl | (simp; done))))
      refine t_end ?_
      intro bq3 gq3 w3 hall3 h3
      (try simp only [Act.put, List.setIfInBounds_toArray, List.set_cons_zero, List.set_cons_succ])
      (try simp only [HA.out])
      clear hall3 H2
      have H3 := hid h3
      clear h3
      go_wp2_with fail
      refine region_text (by kernel_rfl) (by kernel_rfl) (fun _ _ W => QP w W g gr gr q1) H3.out.drew ?_
      iterate 12 ((try simp only [Act.put, List.setIfInBounds_toArray, List.set_cons_zero, List.set_cons_succ]); first
        | (refine t_skip (fun _ => rfl) (fun b γ W h => h) ?_)
        | (refine t_pure ?_ (fun _ => rfl) (fun b γ W h => h) (fun b γ W h _ => ?_) ?_; rotate_left; · (have c10 := (hq h.node).at_; have c9 := (hq h.node).out; have y1 := HSZ.out; have y2 := EK.out; have y3 := EW.out; go_simp; first | rfl | (simp; done))))
      refine t_end ?_
      intro bq6 gq6 w6 hall6 h6
      (try simp only [Act.put, List.setIfInBounds_toArray, List.set_cons_zero, List.set_cons_succ])
      (try simp only [HK.out])
      clear hall6 H3
      have H6 := hid h6
      clear h6
      go_wp2_with fail
      have hx0 : ∀ W, (Instr.index 9 (.string (B [false])) (.int .i64 0)).run Tryz.prog W = .ok (.int .u8 ((sg false).toNat : Int)) W := idx_at [false] 0 (by simp)
      have hy : (((sg false).toNat : Int) == 49) = false := rfl
      refine region_text (by kernel_rfl) (by kernel_rfl) (HeIn w g gr q1 false) ⟨H6.out.node.drew, H6.out.rd.drew, H6.out.g2.drew⟩ ?_
      iterate 8 ((try simp only [Act.put, List.setIfInBounds_toArray, List.set_cons_zero, List.set_cons_succ]); first
        | (refine t_skip (fun _ => rfl) (fun b γ W h => h) ?_)
        | (refine t_call (.string (B [false])) (fun _ => rfl) (f := 74) (args := #[.bool false]) ?_ (fun b γ W h _ => (bit_calls false W).mono (fun e w2 h2 => ⟨h2.1, ⟨h.node.below h2.2, by rw [up_of_ne (by decide)]; exact h.rd.below h2.2, h.g2.own (o := none) (grown_of_below h2.2) (fun i e => by cases e)⟩⟩)) ?_; · (intro b γ W h _; go_simp; done))
        | (refine t_call (.int .i64 ((q1.r.next false).2 : Int)) (fun _ => rfl) (f := 68) (args := #[.pointer (some ⟨gr, 0, none⟩), .int .u8 ((sg false).toNat : Int)]) ?_ (fun b γ W h hb7 => (rnext3_calls gr q1.r false _ W (by have := h.rd; rw [hb7] at this; exact this) hy (by have := HB.out.S; omega) (by have := HB.out.plain; omega) (by have := HB.out.run; omega) (by have := HB.out.tail; omega) (by have := HB.out.want; omega)).mono (fun e w2 h2 => ⟨h2.1, ⟨h.node.grown h2.2.grown (by simp only [ne_eq, Option.some.injEq]; omega), by rw [up_at]; exact h2.2.blk, h.g2.own h2.2.grown (fun i e => by injection e with e; exact .inr (.inl e.symm))⟩⟩)) ?_; · (intro b γ W h _; go_simp; done))
        | (refine t_pure ?_ (fun _ => rfl) (fun b γ W h => ⟨h.node, by rw [up_of_ne (by decide)]; exact h.rd, h.g2⟩) (fun b γ W h _ => ?_) ?_; rotate_left; · (have c12 := (hq h.node).r; go_simp; first | rfl | (simp; done))))
      refine t_end ?_
      intro bq9 gq9 w9 hall9 hS9
      have hrd := hS9.rd
      rw [hall9 7 (by decide), if_pos rfl] at hrd
      have hnd := hS9.node
      have hg2 := hS9.g2
      clear hall9 hS9 hx0 hy H6
      (try simp only [Act.put, List.setIfInBounds_toArray, List.set_cons_zero, List.set_cons_succ])
      have hX := HX.out
      clear HX
      generalize hN : q1.r.next false = n at hrd hX ⊢
      obtain ⟨r1, e1⟩ := n
      simp only at hrd hX
      have H9 := hid (show QP w w9 g gr gr { q1 with r := r1 } from ⟨hnd, hrd, hg2, .inl rfl⟩)
      clear hnd hrd hg2 hN
      obtain ⟨z, hz⟩ : ∃ z, decide (q1.at_ = q1.out.length) = z := ⟨_, rfl⟩
      have HZ := hid hz
      have HE := hid (show ((q1.at_ : Int) == (q1.out.length : Int)) = z by rw [← hz, Bool.eq_iff_iff]; simp only [beq_iff_eq, decide_eq_true_eq]; omega)
      have qz : (q1.at_ = q1.out.length) = (z = true) := by rw [← hz]; simp
      simp only [qz] at hX
      have HX := hid hX
      clear hX hz qz
      go_wp2_with fail
      refine region_text (by kernel_rfl) (by kernel_rfl) (fun _ _ W => QP w W g gr gr { q1 with r := r1 }) H9.out.drew ?_
      iterate 10 ((try simp only [Act.put, List.setIfInBounds_toArray, List.set_cons_zero, List.set_cons_succ]); first
        | (refine t_skip (fun _ => rfl) (fun b γ W h => h) ?_)
        | (refine t_pure ?_ (fun _ => rfl) (fun b γ W h => h) (fun b γ W h _ => ?_) ?_; rotate_left; · (have c10 := (hq h.node).at_; have c9 := (hq h.node).out; simp only at c9 c10; have y1 := HSZ.out; have y2 := HE.out; go_simp; first | rfl | (simp; done))))
      refine t_end ?_
      intro bqa gqa wa halla ha
      (try simp only [Act.put, List.setIfInBounds_toArray, List.set_cons_zero, List.set_cons_succ])
      (try simp only [HZ.out])
      have HA9 := hid ha
      clear halla ha H9
      have hX := HX.out
      clear HX
      cases z
      · rw [if_neg (by decide)] at hX
        have HX := hid hX
        clear hX
        go_wp2_with fail
        go_ret
        rw [HX.out]
        exact ⟨_, rfl, HA9.out, evs_nil _ _⟩
      · rw [if_pos rfl] at hX
        have HX := hid hX
        clear hX
        have c14 := (hq HA9.out.node).sent
        have c15 := (hq HA9.out.node).got
        simp only at c14 c15
        go_wp2_with fail
        refine (qsent_calls q1.sent q1.got true _).mono ?_
        rintro y w7 ⟨rfl, hb7⟩
        have h7 := HA9.out.later hb7
        clear HA9 hb7 c14 c15
        have c14 := (hq h7.node).sent
        have c15 := (hq h7.node).got
        have f14 := h7.node.frozen 14
        have f15 := h7.node.frozen 15
        have c3 := (hq h7.node).sender
        have f3 := h7.node.frozen 3
        simp only at c14 c15 c3
        have h8 : QP w (((w7.setCell ⟨g, 14, none⟩ (.int .i64 (sentV q1.sent q1.got true))).setCell ⟨g, 15, none⟩ (.int .i64 q1.got)).setCell ⟨g, 3, none⟩ (.bool false)) g gr gr { q1 with r := r1, sent := sentV q1.sent q1.got true, sender := false } :=
          ((h7.set (q' := { q1 with r := r1, sent := sentV q1.sent q1.got true }) 14 _ rfl rfl).set (q' := { q1 with r := r1, sent := sentV q1.sent q1.got true }) 15 _ rfl rfl).set 3 _ rfl rfl
        have H8 := hid h8
        clear h8 h7
        go_upto_region 19 with fail
        generalize ((w7.setCell ⟨g, 14, none⟩ (.int .i64 (sentV q1.sent q1.got true))).setCell ⟨g, 15, none⟩ (.int .i64 q1.got)).setCell ⟨g, 3, none⟩ (.bool false) = w8 at *
        clear c14 c15 f14 f15 c3 f3
        go_wp2_with fail
        refine (qpause_calls g gr _ _ H8.out.node).mono ?_
        rintro y wb ⟨rfl, hb⟩
        have hb' : QP w wb g gr gr (Q7.pause { q1 with r := r1, sent := sentV q1.sent q1.got true, sender := false }) :=
          ⟨hb.blk, H8.out.rd.grown hb.grown (by simp only [ne_eq, Option.some.injEq]; omega), H8.out.g2.own hb.grown (fun i e => by injection e with e; exact .inl e.symm), .inl rfl⟩
        have HBB := hid hb'
        clear hb hb' H8
        have c5 := (hq HBB.out.node).fe
        have c6 := (hq HBB.out.node).fi
        have c7 := (hq HBB.out.node).fr
        have c8 := (hq HBB.out.node).fd
        simp only [Q7.pause] at c5 c6 c7 c8
        go_wp2_with fail
        go_ret
        rw [HX.out]
        refine ⟨_, rfl, HBB.out.alloc _, ?_⟩
        exact evs_new (L := [⟨1, q1.f, 0⟩]) (cs := ec ⟨1, q1.f, 0⟩) rfl (List.append_nil _).symm HBB.out.g2.size (by simp)
end Go.Proofs.YtpkpnaedacefaaaGreat.MacR
