/- Nodes of a law's own. -/
import Derived.Test.YtpkpnaedacefaaaGreatMacJ
import Derived.Test.YtpkpnaedacefaaaGreatMacRun
namespace Go.Proofs.YtpkpnaedacefaaaGreat.MacW
set_option linter.unusedVariables false
set_option linter.unusedSimpArgs false
open Go Go.RowKit Go.Proofs.YtpkpnaedacefaaaGreat.Lib Go.Proofs.YtpkpnaedacefaaaGreat.Bits Go.Proofs.YtpkpnaedacefaaaGreat.BitsW Go.Proofs.YtpkpnaedacefaaaGreat.StuffW Go.Proofs.YtpkpnaedacefaaaGreat.Frame Go.Proofs.YtpkpnaedacefaaaGreat.FrameW Go.Proofs.YtpkpnaedacefaaaGreat.Code Go.Proofs.YtpkpnaedacefaaaGreat.CodeW Go.Proofs.YtpkpnaedacefaaaGreat.Mac Go.Proofs.YtpkpnaedacefaaaGreat.PrintMore
attribute [local go_sem] max2_int min2_int max_two min_two
theorem eqA24 (d : Nat) (w : World) (x0 y0 : Bool) (x1 y1 : Int) (x2 y2 : Bool) (x3 y3 : ByteArray) :
    (Op.equalIn (d + 2) 35 (.agg #[.bool x0, .int .u32 x1, .bool x2, .string x3]) (.agg #[.bool y0, .int .u32 y1, .bool y2, .string y3])).run Tryz.prog w = .ok (x0 == y0 && (x1 == y1 && (x2 == y2 && (x3.toList == y3.toList)))) w := by
  refine eqA_of Tryz.underlying35 (by kernel_rfl) ?_
  refine eqf_cons (by rfl) (by go_simp; rfl) (by go_simp; rfl) (by go_simp) ?_
  refine eqf_cons (by rfl) (by go_simp; rfl) (by go_simp; rfl) (by go_simp) ?_
  refine eqf_cons (by rfl) (by go_simp; rfl) (by go_simp; rfl) (by go_simp) ?_
  exact eqf_last (by rfl) (by go_simp; rfl) (by go_simp; rfl) (by go_simp)
/-- A node at block g, made behind w0. -/
structure Nd (w0 W : World) (g : Nat) (m : M) : Prop where
  blk : Blk W g MT (mc m)
  below : Below w0.heap.size w0 W
  le : w0.heap.size ≤ g
theorem Nd.at {w0 W W' : World} {g : Nat} {m m' : M} (h : Nd w0 W g m) (k : At W W' g m') : Nd w0 W' g m' :=
  ⟨k.blk, h.below.grown k.grown h.below.size (fun i e => by injection e with e; subst e; exact h.le), h.le⟩
theorem Nd.later {w0 W W' : World} {g : Nat} {m : M} (h : Nd w0 W g m) (k : Below W.heap.size W W') : Nd w0 W' g m := ⟨h.blk.below k, h.below.trans (k.mono h.below.size), h.le⟩
theorem Nd.drew {w0 W : World} {g : Nat} {m : M} (h : Nd w0 W g m) : Nd w0 W.drew g m := ⟨h.blk.drew, h.below.drew, h.le⟩
/-- Events as they are read. -/
theorem evs_slice {W : World} {b : Nat} {v : Value} {L : List Ev} (h : Evs W b v L) : ∃ a cap, v = .slice a L.length cap ∧ ∀ j u, (L.flatMap ec)[j]? = some u → ∃ g, a = some ⟨g, 0, none⟩ ∧ b ≤ g ∧ W.cell? ⟨g, j, none⟩ = some u := by
  rcases h.2 with ⟨h1, h2⟩ | ⟨g, cap, cur, rfl, h3, _⟩
  · have : L = [] := List.eq_nil_of_length_eq_zero h2
    subst this
    exact ⟨none, 0, h1, fun j u hj => by simp at hj⟩
  · refine ⟨some ⟨g, 0, none⟩, cap, rfl, fun j u hj => ⟨g, rfl, h3, ?_⟩⟩
    have := h.cells (g := g) rfl j u hj
    rw [Addr.add_mid, Nat.zero_add] at this
    exact this
/-- One event. -/
theorem evs_one {W : World} {b : Nat} {v : Value} {x : Ev} (h : Evs W b v [x]) : ∃ g cap, v = .slice (some ⟨g, 0, none⟩) 1 cap ∧ b ≤ g ∧ W.cell? ⟨g, 0, none⟩ = some (.int .i64 x.kind) ∧ W.cell? ⟨g, 1, none⟩ = some (.bool x.f.e) ∧ W.cell? ⟨g, 2, none⟩ = some (.int .u32 x.f.i) ∧
    W.cell? ⟨g, 3, none⟩ = some (.bool x.f.r) ∧ W.cell? ⟨g, 4, none⟩ = some (.string x.f.d) ∧ W.cell? ⟨g, 5, none⟩ = some (.int .i64 x.err) := by
  obtain ⟨a, cap, rfl, hc⟩ := evs_slice h
  obtain ⟨g, rfl, hb, h0⟩ := hc 0 _ rfl
  have get : ∀ j u, ([x].flatMap ec)[j]? = some u → W.cell? ⟨g, j, none⟩ = some u := by
    intro j u hj
    obtain ⟨g', e, _, hh⟩ := hc j u hj
    injection e with e
    injection e with e
    subst e
    exact hh
  exact ⟨g, cap, rfl, hb, h0, get 1 _ rfl, get 2 _ rfl, get 3 _ rfl, get 4 _ rfl, get 5 _ rfl⟩
/-- Another node, a frame of the law's own, behind a call at block g. -/
theorem Nd.far {w0 W W' : World} {g g' : Nat} {m : M} (h : Nd w0 W g' m) (k : W.grownBy W' (some g)) (hne : g' ≠ g) (hg : w0.heap.size ≤ g) : Nd w0 W' g' m :=
  ⟨h.blk.grown k (by simpa using hne), h.below.grown k h.below.size (fun i e => by injection e with e; subst e; exact hg), h.le⟩
theorem evs_below {W W' : World} {b : Nat} {v : Value} {L : List Ev} (h : Evs W b v L) (k : Below W.heap.size W W') : Evs W' b v L := by
  have hg : W.grownBy W' none := grown_of_below k
  rcases h.2 with ⟨rfl, _⟩ | ⟨g, cap, cur, rfl, _⟩
  · exact World.ownsRow.kept h hg (.inl rfl)
  · exact World.ownsRow.kept h hg (.inr (by simp [Value.ownBlock]))
theorem nd_sample {w0 W : World} {g : Nat} {m : M} (h : Nd w0 W g m) (hs : Safe m) (c : Bool) (x : Int) (hx : (x == 48) = !c) : Calls Tryz.prog 28 #[.pointer (some ⟨g, 0, none⟩), .int .u8 x] W fun e w' =>
    ∃ v, e = .returned v ∧ Nd w0 w' g (m.sample c).1 ∧ Evs w' W.heap.size v (m.sample c).2 ∧ W.grownBy w' (some g) :=
  (sample_calls g m c x hx W h.blk hs).mono fun e w' ⟨v, h1, h2, h3⟩ => ⟨v, h1, h.at h2, h3, h2.grown⟩
theorem nd_drive {w0 W : World} {g : Nat} {m : M} (h : Nd w0 W g m) (hs : Safe m) (hr : Rd.Ok m.r) : Calls Tryz.prog 26 #[.pointer (some ⟨g, 0, none⟩)] W fun e w' =>
    e = .returned (.int .u8 ((sg m.drive).toNat : Int)) ∧ Nd w0 w' g m ∧ W.grownBy w' (some g) :=
  (drive_calls g m W h.blk hr hs.len (fun ho => (hs.bits ho).1)).mono fun e w' ⟨h1, h2⟩ => ⟨h1, h.at h2, h2.grown⟩
theorem nd_ask {w0 W : World} {g : Nat} {m : M} (h : Nd w0 W g m) (f : Fm) : Calls Tryz.prog 24 #[.pointer (some ⟨g, 0, none⟩), fv f] W fun e w' =>
    e = .returned (.int .i64 (m.ask f).2) ∧ Nd w0 w' g (m.ask f).1 ∧ W.grownBy w' (some g) :=
  (ask_calls g m f W h.blk).mono fun e w' ⟨h1, h2⟩ => ⟨h1, h.at h2, h2.grown⟩
theorem nd_counts {w0 W : World} {g : Nat} {m : M} (h : Nd w0 W g m) : Calls Tryz.prog 15 #[.pointer (some ⟨g, 0, none⟩)] W fun e w' => e = .returned (.agg #[.int .i64 m.sent, .int .i64 m.got]) ∧ Nd w0 w' g m ∧ Below W.heap.size W w' :=
  (counts_calls g m W h.blk).mono fun e w' ⟨h1, h2⟩ => ⟨h1, h.later h2, h2⟩
theorem nd_new {w0 W : World} (h : Below w0.heap.size w0 W) : Calls Tryz.prog 20 #[] W fun e w' => e = .returned (.pointer (some ⟨W.heap.size, 0, none⟩)) ∧ Nd w0 w' W.heap.size M.new ∧ Below W.heap.size W w' :=
  (new_calls W).mono fun e w' ⟨h1, h2, h3⟩ => ⟨h1, ⟨h2, h.trans (h3.mono h.size), h.size⟩, h3⟩
end Go.Proofs.YtpkpnaedacefaaaGreat.MacW
