/- A node that was made, and heard four bits 1. -/
import Derived.Test.YtpkpnaedacefaaaGreatMacHear
namespace Go.Proofs.YtpkpnaedacefaaaGreat.MacL
set_option linter.unusedVariables false
set_option linter.unusedSimpArgs false
open Go Go.RowKit Go.Proofs.YtpkpnaedacefaaaGreat.Lib Go.Proofs.YtpkpnaedacefaaaGreat.Bits Go.Proofs.YtpkpnaedacefaaaGreat.BitsW Go.Proofs.YtpkpnaedacefaaaGreat.StuffW Go.Proofs.YtpkpnaedacefaaaGreat.Frame Go.Proofs.YtpkpnaedacefaaaGreat.FrameW Go.Proofs.YtpkpnaedacefaaaGreat.Code Go.Proofs.YtpkpnaedacefaaaGreat.CodeW Go.Proofs.YtpkpnaedacefaaaGreat.Mac Go.Proofs.YtpkpnaedacefaaaGreat.MacW Go.Proofs.YtpkpnaedacefaaaGreat.PrintMore
attribute [local go_sem] max2_int min2_int max_two min_two
theorem field_got (x y : Int) (w : World) : (Instr.field 47 (.agg #[.int .i64 x, .int .i64 y]) 1).run Tryz.prog w = .ok (.int .i64 y) w := by kernel_rfl
theorem field_sent (x y : Int) (w : World) : (Instr.field 47 (.agg #[.int .i64 x, .int .i64 y]) 0).run Tryz.prog w = .ok (.int .i64 x) w := by kernel_rfl
/-- A node, and a frame of the law's. -/
structure NB (w W : World) (g p : Nat) (m : M) (f : Fm) : Prop where
  nf : Nf w W g m
  box : Blk W p 35 (fc f)
  ne : p ≠ g
  le : w.heap.size ≤ p
theorem NB.at {w W W' : World} {g p : Nat} {m m' : M} {f : Fm} (h : NB w W g p m f) (k : Nf w W' g m') (hg : W.grownBy W' (some g)) : NB w W' g p m' f := ⟨k, h.box.grown hg (by simpa using h.ne), h.ne, h.le⟩
theorem NB.later {w W W' : World} {g p : Nat} {m : M} {f : Fm} (h : NB w W g p m f) (k : Below W.heap.size W W') : NB w W' g p m f := ⟨h.nf.later k, h.box.below k, h.ne, h.le⟩
theorem NB.drew {w W : World} {g p : Nat} {m : M} {f : Fm} (h : NB w W g p m f) : NB w W.drew g p m f := ⟨h.nf.drew, h.box.drew, h.ne, h.le⟩
theorem blk_fr {W : World} {p : Nat} {f : Fm} (h : Blk W p 35 (fc f)) : W.cell? ⟨p, 0, none⟩ = some (.bool f.e) ∧ W.cell? ⟨p, 1, none⟩ = some (.int .u32 f.i) ∧ W.cell? ⟨p, 2, none⟩ = some (.bool f.r) ∧ W.cell? ⟨p, 3, none⟩ = some (.string f.d) :=
  ⟨h.cell 0, h.cell 1, h.cell 2, h.cell 3⟩
theorem NB.fr {w W : World} {g p : Nat} {m : M} {f : Fm} (h : NB w W g p m f) : W.cell? ⟨p, 0, none⟩ = some (.bool f.e) ∧ W.cell? ⟨p, 1, none⟩ = some (.int .u32 f.i) ∧ W.cell? ⟨p, 2, none⟩ = some (.bool f.r) ∧ W.cell? ⟨p, 3, none⟩ = some (.string f.d) := blk_fr h.box
/-- Two events in memory. -/
structure E2 (W : World) (q : Nat) (x y : Ev) : Prop where
  out : ∃ b cap, Evs W b (.slice (some ⟨q, 0, none⟩) 2 cap) [x, y]
theorem E2.later {W W' : World} {q : Nat} {x y : Ev} (h : E2 W q x y) (k : Below W.heap.size W W') : E2 W' q x y := by
  obtain ⟨b, cap, h⟩ := h.out
  exact ⟨b, cap, evs_below h k⟩
theorem E2.drew {W : World} {q : Nat} {x y : Ev} (h : E2 W q x y) : E2 W.drew q x y := h.later (Below.refl _ W).drew
theorem E2.get {W : World} {q : Nat} {x y : Ev} (h : E2 W q x y) : W.cell? ⟨q, 0, none⟩ = some (.int .i64 x.kind) ∧ W.cell? ⟨q, 1, none⟩ = some (.bool x.f.e) ∧ W.cell? ⟨q, 2, none⟩ = some (.int .u32 x.f.i) ∧
    W.cell? ⟨q, 3, none⟩ = some (.bool x.f.r) ∧ W.cell? ⟨q, 4, none⟩ = some (.string x.f.d) ∧ W.cell? ⟨q, 5, none⟩ = some (.int .i64 x.err) ∧ W.cell? ⟨q, 6, none⟩ = some (.int .i64 y.kind) := by
  obtain ⟨b, cap, h⟩ := h.out
  obtain ⟨a, cap', e, hc⟩ := evs_slice h
  injection e with e
  subst e
  have get : ∀ j u, ([x, y].flatMap ec)[j]? = some u → W.cell? ⟨q, j, none⟩ = some u := by
    intro j u hj
    obtain ⟨g', e, _, hh⟩ := hc j u hj
    injection e with e
    injection e with e
    subst e
    exact hh
  exact ⟨get 0 _ rfl, get 1 _ rfl, get 2 _ rfl, get 3 _ rfl, get 4 _ rfl, get 5 _ rfl, get 6 _ rfl⟩
theorem evs_two {W : World} {b : Nat} {v : Value} {x y : Ev} (h : Evs W b v [x, y]) : ∃ q cap, v = .slice (some ⟨q, 0, none⟩) 2 cap ∧ E2 W q x y := by
  obtain ⟨a, cap, rfl, hc⟩ := evs_slice h
  obtain ⟨q, rfl, _, _⟩ := hc 0 _ rfl
  exact ⟨q, cap, rfl, ⟨b, cap, h⟩⟩
/-- Some events in memory. -/
structure EL (W : World) (q : Nat) (L : List Ev) : Prop where
  out : ∃ b cap, Evs W b (.slice (some ⟨q, 0, none⟩) L.length cap) L
theorem EL.later {W W' : World} {q : Nat} {L : List Ev} (h : EL W q L) (k : Below W.heap.size W W') : EL W' q L := by
  obtain ⟨b, cap, h⟩ := h.out
  exact ⟨b, cap, evs_below h k⟩
theorem EL.drew {W : World} {q : Nat} {L : List Ev} (h : EL W q L) : EL W.drew q L := h.later (Below.refl _ W).drew
theorem EL.get {W : World} {q : Nat} {L : List Ev} (h : EL W q L) (j : Nat) (u : Value) (hj : (L.flatMap ec)[j]? = some u) : W.cell? ⟨q, j, none⟩ = some u := by
  obtain ⟨b, cap, h⟩ := h.out
  obtain ⟨a, cap', e, hc⟩ := evs_slice h
  injection e with e
  subst e
  obtain ⟨g', e, _, hh⟩ := hc j u hj
  injection e with e
  injection e with e
  subst e
  exact hh
theorem evs_some {W : World} {b : Nat} {v : Value} {L : List Ev} (h : Evs W b v L) (h0 : L ≠ []) : ∃ q cap, v = .slice (some ⟨q, 0, none⟩) L.length cap ∧ b ≤ q ∧ EL W q L := by
  rcases h.2 with ⟨_, h2⟩ | ⟨g, cap, cur, rfl, h3, _⟩
  · exact absurd (List.eq_nil_of_length_eq_zero h2) h0
  · exact ⟨g, cap, rfl, h3, ⟨b, cap, h⟩⟩
theorem evs_none {W : World} {b : Nat} {v : Value} (h : Evs W b v []) : ∃ a cap, v = .slice a 0 cap := by
  obtain ⟨a, cap, e, _⟩ := evs_slice h
  exact ⟨a, cap, e⟩
/-- A frame of the law's, alone. -/
structure BX (w W : World) (p : Nat) (f : Fm) : Prop where
  box : Blk W p 35 (fc f)
  below : Below w.heap.size w W
  le : w.heap.size ≤ p
theorem BX.later {w W W' : World} {p : Nat} {f : Fm} (h : BX w W p f) (k : Below W.heap.size W W') : BX w W' p f := ⟨h.box.below k, h.below.trans (k.mono h.below.size), h.le⟩
theorem BX.drew {w W : World} {p : Nat} {f : Fm} (h : BX w W p f) : BX w W.drew p f := ⟨h.box.drew, h.below.drew, h.le⟩
theorem BX.make (w : World) (f : Fm) : BX w (w.alloc (.cells #[.bool f.e, .int .u32 f.i, .bool f.r, .string f.d] 35)) w.heap.size f :=
  ⟨Blk.new w (fc f) _, (Below.refl _ _).alloc (Nat.le_refl _) _, Nat.le_refl _⟩
theorem BX.fr {w W : World} {p : Nat} {f : Fm} (h : BX w W p f) : W.cell? ⟨p, 0, none⟩ = some (.bool f.e) ∧ W.cell? ⟨p, 1, none⟩ = some (.int .u32 f.i) ∧ W.cell? ⟨p, 2, none⟩ = some (.bool f.r) ∧ W.cell? ⟨p, 3, none⟩ = some (.string f.d) := blk_fr h.box
theorem BX.nb {w W W' : World} {p g : Nat} {m : M} {f : Fm} (h : BX w W p f) (k : Nf w W' g m) (hg : W.heap.size ≤ g) (hb : Below W.heap.size W W') : NB w W' g p m f :=
  ⟨k, h.box.below hb, by have := h.box.lt; omega, h.le⟩
theorem fv_eq (f : Fm) : fv f = .agg #[.bool f.e, .int .u32 f.i, .bool f.r, .string f.d] := rfl
theorem ackF_no {f : Fm} (h : f.ok = false) : ackF f.e f.i f.r f.d = ⟨#[]⟩ := by
  unfold ackF
  rw [if_neg (by rw [show okF f.e f.i f.r f.d = f.ok from rfl, h]; decide)]
theorem ack_full {f : Fm} (h : f.Good) : (B f.ack).toList.isEmpty = false := by
  have hl := ack_long h
  rw [Facts.B_list]
  cases hf : f.ack with
  | nil => rw [hf] at hl; simp at hl
  | cons a l => rfl
theorem ok_data {f : Fm} (h : f.ok = true) : f.d.size ≤ 8 := FrameEq.okF_size _ _ _ _ h
end Go.Proofs.YtpkpnaedacefaaaGreat.MacL
