/- WirePlays (layer 8): every row of frames asked for, of bits, of turned ones: each bit's events, what all nodes heard, their counters, the trace, as the document's nodes have them; a copy's bits leave the wire alone. Conditions: none beyond the types of the arguments; long rows are let pass. -/
import Derived.Test.YtpkpnaedacefaaaGreatWireH
import Derived.Test.YtpkpnaedacefaaaGreatWirePure
import Derived.Test.YtpkpnaedacefaaaGreatMacIdle
import Derived.ChangeArms
import Derived.DataReads
import Derived.Test.YtpkpnaedacefaaaGreatMacEvs
import Derived.Test.YtpkpnaedacefaaaGreatRefMx
import Derived.ArgAppend
import Derived.Deep.Upon
/- What layer 8's laws all ask first. -/
namespace Go.Proofs.YtpkpnaedacefaaaGreat.WireL
set_option linter.unusedVariables false
set_option linter.unusedSimpArgs false
open Go Go.RowKit Go.Proofs.YtpkpnaedacefaaaGreat.Lib Go.Proofs.YtpkpnaedacefaaaGreat.Bits Go.Proofs.YtpkpnaedacefaaaGreat.BitsW Go.Proofs.YtpkpnaedacefaaaGreat.StuffW Go.Proofs.YtpkpnaedacefaaaGreat.Frame Go.Proofs.YtpkpnaedacefaaaGreat.FrameW Go.Proofs.YtpkpnaedacefaaaGreat.Code Go.Proofs.YtpkpnaedacefaaaGreat.CodeW Go.Proofs.YtpkpnaedacefaaaGreat.Mac Go.Proofs.YtpkpnaedacefaaaGreat.MacW Go.Proofs.YtpkpnaedacefaaaGreat.MacL Go.Proofs.YtpkpnaedacefaaaGreat.WireN Go.Proofs.YtpkpnaedacefaaaGreat.WireW Go.Proofs.YtpkpnaedacefaaaGreat.WireP Go.Proofs.YtpkpnaedacefaaaGreat.PrintMore
attribute [local go_sem] max2_int min2_int max_two min_two
attribute [local go_sem high] eqA24
def k7 : Fm := ⟨false, 7, false, ⟨#[]⟩⟩
theorem k7_good : k7.Good := ⟨by decide +kernel, by unfold Fm.wf k7; decide⟩
theorem k7_len : k7.ack.length ≤ 67 := by decide +kernel
theorem evs_el {W : World} {b : Nat} {v : Value} {x : Ev} {L : List Ev} (h : Evs W b v (x :: L)) : ∃ q cap, v = .slice (some ⟨q, 0, none⟩) (L.length + 1) cap ∧ EL W q (x :: L) := by
  obtain ⟨a, cap, rfl, hc⟩ := evs_slice h
  obtain ⟨q, rfl, _⟩ := hc 0 _ rfl
  exact ⟨q, cap, rfl, ⟨b, cap, h⟩⟩
theorem WB.fr {w W : World} {B g p : Nat} {f : Fm} {ps : List (Nat × Fm)} {c : Gc} (h : WB w W B g ((p, f) :: ps) c) : W.cell? ⟨p, 0, none⟩ = some (.bool f.e) ∧ W.cell? ⟨p, 1, none⟩ = some (.int .u32 f.i) ∧ W.cell? ⟨p, 2, none⟩ = some (.bool f.r) ∧ W.cell? ⟨p, 3, none⟩ = some (.string f.d) :=
  box_fr (h.box (p, f) List.mem_cons_self)
set_option maxRecDepth 100000 in
set_option maxHeartbeats 6400000 in
theorem known_calls (w : World) : Calls Tryz.prog 4 #[] w fun e w' => e = .returned (.bool true) ∧ Below w.heap.size w w' := by
  have HN := hid (wb_new (ps := []) 2 (Below.refl w.heap.size w) (fun x hx => by cases hx))
  have HK := hid k7_good
  go_enter Tryz.func4, Tryz.ntmps4
  go_wp2_with fail
  with_reducible refine HN.out.mono ?_
  rintro y w1 ⟨g, rfl, h1⟩
  have h1 : WB w w1 w.heap.size g [] (Gc.new 2) := h1
  have H2 := hid (show WB w (w1.alloc (.cells #[.bool false, .int .u32 7, .bool false, .string ⟨#[]⟩] 35)) w.heap.size g [(w1.heap.size, k7)] (Gc.new 2) from h1.add k7)
  clear h1 HN
  obtain ⟨x0, x1, x2, x3⟩ := WB.fr H2.out
  simp only [k7] at x0 x1 x2 x3
  go_wp2_with fail
  with_reducible refine (wb_len H2.out).mono ?_
  rintro y w2 ⟨rfl, rfl⟩
  rw [show ((Gc.new 2).n : Int) = 2 from rfl]
  go_wp2_with fail
  obtain ⟨o1, o2⟩ := one_start (k := 2) (s := 0) HK.out (by decide)
  generalize w1.heap.size = p at H2 x0 x1 x2 x3 ⊢
  have HO1 := hid o1
  have HO2 := hid o2
  clear o1 o2
  refine (wb_ask H2.out 0 (by decide) k7 HK.out.wf).mono ?_
  rintro y w3 ⟨rfl, h3⟩
  have H3 := hid h3
  rw [HO2.out]
  clear h3 H2
  obtain ⟨x0, x1, x2, x3⟩ := WB.fr H3.out
  simp only [k7] at x0 x1 x2 x3
  go_wp2_with fail
  refine (wb_ask_out H3.out 5 (.inr (by decide)) k7).mono ?_
  rintro y w4 ⟨rfl, h4⟩
  have H4 := hid h4
  clear h4 H3
  obtain ⟨x0, x1, x2, x3⟩ := WB.fr H4.out
  simp only [k7] at x0 x1 x2 x3
  go_wp2_with fail
  refine (wb_mac_out H4.out 9 (.inr (by decide))).mono ?_
  rintro y w5 ⟨rfl, rfl⟩
  go_wp2_with fail
  go_loopw [3] (fun i wr => ∃ (j : Nat) (c : Gc), j ≤ 70 ∧ i = .int .i64 j ∧ WB w wr w.heap.size g [(p, k7)] c ∧ One 2 0 k7 j c) (fun i _ => 70 - (intOf i).toNat)
  case atStart => exact ⟨0, _, Nat.zero_le _, rfl, H4.out, HO1.out⟩
  case round =>
    clear H4 HO1 HO2 x0 x1 x2 x3
    obtain ⟨j, c, hj, rfl, hb, ho⟩ := hrel
    have H6 := hid hb
    have HO := hid ho
    clear hb ho
    by_cases hlt : j < 70
    · have u0 : ((j : Int) < 70) = True := eq_true (by omega)
      have u1 : decide ((j : Int) < 70) = true := decide_eq_true (by omega)
      have u2 : IntKind.i64.wrap ((j : Int) + 1) = ((j + 1 : Nat) : Int) := by rw [IntKind.wrap_i64]; omega
      have u3 : (j < 70) = True := eq_true hlt
      go_wp2_with fail
      with_reducible refine (wb_step H6.out false (by rw [HO.out.bn]; omega)).mono ?_
      rintro y w7 ⟨v, rfl, h7, _⟩
      have H7 := hid h7
      have HO7 := hid (HO.out.step HK.out (by decide) (by decide)).1
      clear h7 H6
      go_wp2_with fail
      exact ⟨⟨j + 1, _, by omega, rfl, H7.out, HO7.out⟩, by simp [intOf]; omega⟩
    · obtain rfl : j = 70 := by omega
      have hl := k7_len
      have e0 : c.hs 0 = [⟨6, Fm.zero, 0⟩, ⟨1, k7, 0⟩] := by
        rw [HO.out.hs 0 (by decide), if_pos rfl]
        unfold hearS
        rw [if_neg (by decide), if_neg (by omega)]
      have e1 : c.hs 1 = [⟨6, Fm.zero, 0⟩, ⟨2, k7, 0⟩] := by
        rw [HO.out.hs 1 (by decide), if_neg (by decide)]
        unfold hearL
        rw [if_neg (by decide), if_neg (by omega)]
      have en : c.n = 2 := HO.out.n
      have E0 := hid e0
      have E1 := hid e1
      have EN := hid en
      clear e0 e1 en hl
      go_wp2_with fail
      refine (wb_heard H6.out 0 (by rw [EN.out]; decide)).mono ?_
      rintro y w7 ⟨v, rfl, h7, _, h7'⟩
      rw [E0.out] at h7
      obtain ⟨q1, cap1, rfl, hq1⟩ := evs_el h7
      have H7 := hid h7'
      have HQ1 := hid hq1
      clear h7 h7' H6 hq1
      go_wp2_with fail
      refine (wb_heard H7.out 1 (by rw [EN.out]; decide)).mono ?_
      rintro y w8 ⟨v, rfl, h8, k8, h8'⟩
      rw [E1.out] at h8
      obtain ⟨q2, cap2, rfl, hq2⟩ := evs_el h8
      have H8 := hid h8'
      have HR1 := hid (HQ1.out.later k8)
      have HR2 := hid hq2
      clear h8 k8 h8' H7 hq2 HQ1
      simp only [List.length_cons, List.length_nil] at *
      go_wp2_with fail
      refine region_text (by kernel_rfl) (by kernel_rfl) (fun _ _ W => WB w W w.heap.size g [(p, k7)] c ∧ EL W q1 [⟨6, Fm.zero, 0⟩, ⟨1, k7, 0⟩] ∧ EL W q2 [⟨6, Fm.zero, 0⟩, ⟨2, k7, 0⟩]) ⟨H8.out.drew, HR1.out.drew, HR2.out.drew⟩ ?_
      iterate 37 ((try simp only [Act.put, List.setIfInBounds_toArray, List.set_cons_zero, List.set_cons_succ]); first
        | (refine t_skip (fun _ => rfl) (fun b γ W h => h) ?_)
        | (refine t_call (.slice none 0 0) (fun _ => rfl) (f := 13) (args := #[.pointer (some ⟨g, 0, none⟩), .int .i64 7]) ?_ (fun b γ W h _ => (wb_heard_out h.1 7 (.inr (by rw [EN.out]; decide))).mono (fun e w2 h2 => ⟨h2.1, by rw [h2.2]; exact h⟩)) ?_; · (intro b γ W h _; go_simp; done))
        | (refine t_pure ?_ (fun _ => rfl) (fun b γ W h => h) (fun b γ W h _ => ?_) ?_; rotate_left; · (have y6 := h.2.1.get 6 _ rfl; have z6 := h.2.2.get 6 _ rfl; have z7 := h.2.2.get 7 _ rfl; have z8 := h.2.2.get 8 _ rfl; have z9 := h.2.2.get 9 _ rfl; have z10 := h.2.2.get 10 _ rfl; obtain ⟨x0, x1, x2, x3⟩ := WB.fr h.1; simp only [k7] at z7 z8 z9 z10 x0 x1 x2 x3; go_simp; rfl)))
      refine t_end ?_
      intro bq gq w11 hall hS
      clear hall
      (try simp only [Act.put, List.setIfInBounds_toArray, List.set_cons_zero, List.set_cons_succ])
      go_wp2_with fail
      go_ret
      exact ⟨rfl, hS.1.below⟩
end Go.Proofs.YtpkpnaedacefaaaGreat.WireL

/- Rows of frames and of bytes as a law's arguments. -/
namespace Go.Proofs.YtpkpnaedacefaaaGreat.WireL
set_option linter.unusedVariables false
set_option linter.unusedSimpArgs false
open Go Go.RowKit Go.Proofs.YtpkpnaedacefaaaGreat.Lib Go.Proofs.YtpkpnaedacefaaaGreat.Mac Go.Proofs.YtpkpnaedacefaaaGreat.MacW
/-- Frame number j of a row of the caller's. -/
structure Fr1 (W : World) (b o j : Nat) (f : Fm) : Prop where
  x0 : W.cell? ⟨b, o + j * 4, none⟩ = some (.bool f.e)
  x1 : W.cell? ⟨b, o + j * 4 + 1, none⟩ = some (.int .u32 f.i)
  x2 : W.cell? ⟨b, o + j * 4 + 2, none⟩ = some (.bool f.r)
  x3 : W.cell? ⟨b, o + j * 4 + 3, none⟩ = some (.string f.d)
theorem Fr1.at {w W : World} {b o j : Nat} {f : Fm} (h : Fr1 w b o j f) (hb : Below w.heap.size w W) : Fr1 W b o j f := by
  have k : ∀ i v, w.cell? ⟨b, i, none⟩ = some v → W.cell? ⟨b, i, none⟩ = some v := fun i v h => (hb.cell (World.block_lt_of_cell? w _ h)).trans h
  exact ⟨k _ _ h.x0, k _ _ h.x1, k _ _ h.x2, k _ _ h.x3⟩
structure Frs (w : World) (A : Option Addr) (n : Nat) (S : Nat → Fm) : Prop where
  get : ∀ j, j < n → ∃ b o, A = some ⟨b, o, none⟩ ∧ Fr1 w b o j (S j)
  wf : ∀ j, j < n → (S j).wf
structure Bys (w : World) (A : Option Addr) (n : Nat) (S : Nat → Int) : Prop where
  get : ∀ j, j < n → ∃ b o, A = some ⟨b, o, none⟩ ∧ w.cell? ⟨b, o + j, none⟩ = some (.int .u8 (S j))
  lo : ∀ j, j < n → 0 ≤ S j ∧ S j < 256
set_option maxRecDepth 100000
theorem some_at {α : Type} {xs : List α} {n i : Nat} (h : xs.length = n) (hi : i < n) : ∃ y, xs[i]? = some y := ⟨_, List.getElem?_eq_getElem (by omega)⟩
theorem trod_fr {H : Type} {enc : TypeId × Value → H} {W : World} {base : Nat} {spare : Nat → Bool} {held : Bool} {n : Nat} {v1 v2 v3 v4 : Value} {y : DataW H × List MemPlace}
    (ht : DataW.trod enc Tryz.prog W base spare held n 35 [v1, v2, v3, v4] = some y) : ∃ f : Fm, v1 = .bool f.e ∧ v2 = .int .u32 f.i ∧ v3 = .bool f.r ∧ v4 = .string f.d ∧ f.wf := by
  obtain ⟨xs, n1, _, _, _, hxl, hf⟩ := DataW.trod_struct Tryz.underlying35 ht
  have hxl : xs.length = 4 := hxl
  obtain ⟨y0, e0⟩ := some_at hxl (i := 0) (by decide)
  obtain ⟨y1, e1⟩ := some_at hxl (i := 1) (by decide)
  obtain ⟨y2, e2⟩ := some_at hxl (i := 2) (by decide)
  obtain ⟨y3, e3⟩ := some_at hxl (i := 3) (by decide)
  have f0 : DataW.trod enc Tryz.prog W base spare held n1 4 [v1] = some y0 := (hf 0 _ rfl).trans e0
  have f1 : DataW.trod enc Tryz.prog W base spare held n1 33 [v2] = some y1 := (hf 1 _ rfl).trans e1
  have f2 : DataW.trod enc Tryz.prog W base spare held n1 4 [v3] = some y2 := (hf 2 _ rfl).trans e2
  have f3 : DataW.trod enc Tryz.prog W base spare held n1 9 [v4] = some y3 := (hf 3 _ rfl).trans e3
  obtain ⟨a, h0, -⟩ := DataW.trod_bool Tryz.underlying4 f0
  obtain ⟨i, h1, -, w1⟩ := DataW.trod_int Tryz.underlying33 f1
  obtain ⟨r, h2, -⟩ := DataW.trod_bool Tryz.underlying4 f2
  obtain ⟨s, h3, -, _⟩ := DataW.trod_string Tryz.underlying9 f3
  refine ⟨⟨a, i, r, s⟩, by simpa using h0, by simpa using h1, by simpa using h2, by simpa using h3, ?_⟩
  simp [Lit.wf, IntKind.min, IntKind.max, IntKind.signed, IntKind.bits] at w1
  show 0 ≤ i ∧ i < 4294967296
  omega
theorem trod_f1 {H : Type} {enc : TypeId × Value → H} {W : World} {base : Nat} {spare : Nat → Bool} {held : Bool} {n : Nat} {b o i : Nat} {y : DataW H × List MemPlace}
    (h : (W.cells? base ⟨b, o + i * 4, none⟩ 4).bind (DataW.trod enc Tryz.prog W base spare held n 35) = some y) : ∃ f, Fr1 W b o i f ∧ f.wf := by
  rw [Option.bind_eq_some_iff] at h
  obtain ⟨cs, hc, ht⟩ := h
  obtain ⟨_, hl, hcell⟩ := World.cells?_some hc
  obtain ⟨v0, v1, v2, v3, rfl⟩ : ∃ v0 v1 v2 v3, cs = [v0, v1, v2, v3] := by
    match cs, hl with
    | [v0, v1, v2, v3], _ => exact ⟨v0, v1, v2, v3, rfl⟩
  obtain ⟨f, h0, h1, h2, h3, hw⟩ := trod_fr ht
  have get : ∀ k v, k < 4 → [v0, v1, v2, v3][k]? = some v → W.cell? ⟨b, o + i * 4 + k, none⟩ = some v := by
    intro k v hk hv
    have := hcell k hk
    rw [Addr.add_mid] at this
    rw [this, hv]
  refine ⟨f, ⟨?_, ?_, ?_, ?_⟩, hw⟩
  · rw [← h0]; exact get 0 _ (by decide) rfl
  · rw [← h1]; exact get 1 _ (by decide) rfl
  · rw [← h2]; exact get 2 _ (by decide) rfl
  · rw [← h3]; exact get 3 _ (by decide) rfl
theorem bys_of {H : Type} {enc : TypeId × Value → H} {W : World} {base : Nat} {spare : Nat → Bool} {held : Bool} {fuel : Nat} {A : Option Addr} {len cap : Nat} {x : DataW H × List MemPlace}
    (h : DataW.trod enc Tryz.prog W base spare held fuel 70 [.slice A len cap] = some x) : ∃ S, Bys W A len S := by
  rcases DataW.trod_slice Tryz.underlying70 h with ⟨hc, _⟩ | ⟨a, len', cap', elems, rest, n, _, hc, _, _, _, _, hlen, hel, _, _⟩
  · simp only [List.cons.injEq, Value.slice.injEq, and_true] at hc
    obtain ⟨_, rfl, _⟩ := hc
    exact ⟨fun _ => 0, fun j hj => absurd hj (Nat.not_lt_zero _), fun j hj => absurd hj (Nat.not_lt_zero _)⟩
  · simp only [List.cons.injEq, Value.slice.injEq, and_true] at hc
    obtain ⟨rfl, rfl, _⟩ := hc
    have hcl : Tryz.prog.cellsOf 5 = 1 := by kernel_rfl
    rw [hcl] at hel
    have one : ∀ i, i < len → ∃ v, W.cell? (a.add (i * 1)) = some v ∧ ∃ x, v = .int .u8 x ∧ 0 ≤ x ∧ x < 256 := by
      intro i hi
      have := hel i hi
      obtain ⟨y, hy⟩ := some_at hlen hi
      rw [hy, Option.bind_eq_some_iff] at this
      obtain ⟨cs, hc, ht⟩ := this
      obtain ⟨_, hl, hcell⟩ := World.cells?_some hc
      obtain ⟨v, rfl⟩ : ∃ v, cs = [v] := by
        match cs, hl with
        | [v], _ => exact ⟨v, rfl⟩
      obtain ⟨z, hz, -, wz⟩ := DataW.trod_int Tryz.underlying5 ht
      have hz : v = .int .u8 z := by simpa using hz
      simp [Lit.wf, IntKind.min, IntKind.max, IntKind.signed, IntKind.bits] at wz
      have h0 : W.cell? ((a.add (i * 1)).add 0) = some v := hcell 0 (by decide)
      have e0 : (a.add (i * 1)).add 0 = a.add (i * 1) := by unfold Addr.add; simp
      rw [e0] at h0
      exact ⟨v, h0, z, hz, by omega, by omega⟩
    by_cases h0 : len = 0
    · subst h0
      exact ⟨fun _ => 0, fun j hj => absurd hj (Nat.not_lt_zero _), fun j hj => absurd hj (Nat.not_lt_zero _)⟩
    · have hsp : a.spot = none := by
        obtain ⟨v, hv, _⟩ := one 0 (by omega)
        simpa [Addr.add] using World.cell?_spot hv
      obtain ⟨b, o, sp⟩ := a
      simp only at hsp
      subst hsp
      have each : ∀ i, ∃ x, i < len → W.cell? ⟨b, o + i, none⟩ = some (.int .u8 x) ∧ 0 ≤ x ∧ x < 256 := by
        intro i
        by_cases hi : i < len
        · obtain ⟨v, hv, x, rfl, hx⟩ := one i hi
          rw [Addr.add_mid, Nat.mul_one] at hv
          exact ⟨x, fun _ => ⟨hv, hx⟩⟩
        · exact ⟨0, fun h => absurd h hi⟩
      exact ⟨fun i => Classical.choose (each i), fun j hj => ⟨b, o, rfl, (Classical.choose_spec (each j) hj).1⟩, fun j hj => (Classical.choose_spec (each j) hj).2⟩
end Go.Proofs.YtpkpnaedacefaaaGreat.WireL

/- Two rows of events, alike. -/
namespace Go.Proofs.YtpkpnaedacefaaaGreat.WireL
set_option linter.unusedVariables false
set_option linter.unusedSimpArgs false
open Go Go.RowKit Go.Proofs.YtpkpnaedacefaaaGreat.Lib Go.Proofs.YtpkpnaedacefaaaGreat.Bits Go.Proofs.YtpkpnaedacefaaaGreat.BitsW Go.Proofs.YtpkpnaedacefaaaGreat.StuffW Go.Proofs.YtpkpnaedacefaaaGreat.Frame Go.Proofs.YtpkpnaedacefaaaGreat.FrameW Go.Proofs.YtpkpnaedacefaaaGreat.Code Go.Proofs.YtpkpnaedacefaaaGreat.CodeW Go.Proofs.YtpkpnaedacefaaaGreat.Mac Go.Proofs.YtpkpnaedacefaaaGreat.MacW Go.Proofs.YtpkpnaedacefaaaGreat.PrintMore
attribute [local go_sem] max2_int min2_int max_two min_two
attribute [local go_sem high] eqA24
theorem eqA34 (d : Nat) (w : World) (k k' : Int) (x0 y0 : Bool) (x1 y1 : Int) (x2 y2 : Bool) (x3 y3 : ByteArray) (e e' : Int) :
    (Op.equalIn (d + 3) 60 (.agg #[.int .i64 k, .bool x0, .int .u32 x1, .bool x2, .string x3, .int .i64 e]) (.agg #[.int .i64 k', .bool y0, .int .u32 y1, .bool y2, .string y3, .int .i64 e'])).run Tryz.prog w = .ok (k == k' && ((x0 == y0 && (x1 == y1 && (x2 == y2 && (x3.toList == y3.toList)))) && (e == e'))) w := by
  refine eqA_of Tryz.underlying60 (by kernel_rfl) ?_
  refine eqf_cons (by rfl) (by go_simp; rfl) (by go_simp; rfl) (by go_simp) ?_
  refine eqf_cons (by rfl) (by go_simp; rfl) (by go_simp; rfl) (by go_simp) ?_
  exact eqf_last (by rfl) (by go_simp; rfl) (by go_simp; rfl) (by go_simp)
attribute [local go_sem high] eqA34
theorem ec_len (x : Ev) : (ec x).length = 6 := rfl
theorem ec_at {L : List Ev} {j : Nat} {x : Ev} (h : L[j]? = some x) (i : Nat) (hi : i < 6) : (L.flatMap ec)[j * 6 + i]? = (ec x)[i]? := by
  induction L generalizing j with
  | nil => simp at h
  | cons y L ih =>
    rw [List.flatMap_cons]
    cases j with
    | zero =>
      simp only [List.getElem?_cons_zero, Option.some.injEq] at h
      subst h
      rw [Nat.zero_mul, Nat.zero_add, List.getElem?_append_left (by rw [ec_len]; exact hi)]
    | succ j =>
      simp only [List.getElem?_cons_succ] at h
      rw [List.getElem?_append_right (by rw [ec_len]; omega), ec_len, show (j + 1) * 6 + i - 6 = j * 6 + i by omega]
      exact ih h
/-- Two rows of events, alike. -/
structure Two (w W : World) (a1 a2 : Option Addr) (L : List Ev) : Prop where
  one : ∀ j x, L[j]? = some x → ∃ g, a1 = some ⟨g, 0, none⟩ ∧ ∀ i, i < 6 → W.cell? ⟨g, j * 6 + i, none⟩ = (ec x)[i]?
  two : ∀ j x, L[j]? = some x → ∃ g, a2 = some ⟨g, 0, none⟩ ∧ ∀ i, i < 6 → W.cell? ⟨g, j * 6 + i, none⟩ = (ec x)[i]?
  below : Below w.heap.size w W
theorem Two.drew {w W : World} {a1 a2 : Option Addr} {L : List Ev} (h : Two w W a1 a2 L) : Two w W.drew a1 a2 L := ⟨h.one, h.two, h.below.drew⟩
set_option maxRecDepth 100000 in
set_option maxHeartbeats 6400000 in
theorem same_calls (w : World) (v1 v2 : Value) (b1 b2 : Nat) (L : List Ev) (h1 : Evs w b1 v1 L) (h2 : Evs w b2 v2 L) (hL : L.length ≤ 1000) :
    Calls Tryz.prog 10 #[v1, v2] w fun e w' => e = .returned (.bool true) ∧ Below w.heap.size w w' := by
  obtain ⟨a1, k1, rfl, g1⟩ := evs_slice h1
  obtain ⟨a2, k2, rfl, g2⟩ := evs_slice h2
  have HH := hid (show Two w w a1 a2 L by
    refine ⟨fun j x hx => ?_, fun j x hx => ?_, Below.refl _ _⟩
    · obtain ⟨g, rfl, _, _⟩ := g1 (j * 6 + 0) _ (ec_at hx 0 (by decide))
      refine ⟨g, rfl, fun i hi => ?_⟩
      have hs : ∃ u, (ec x)[i]? = some u := ⟨(ec x)[i]'(by rw [ec_len]; exact hi), List.getElem?_eq_getElem _⟩
      obtain ⟨u, hu⟩ := hs
      obtain ⟨g', e, _, hc⟩ := g1 (j * 6 + i) u ((ec_at hx i hi).trans hu)
      injection e with e
      injection e with e
      subst e
      rw [hc, hu]
    · obtain ⟨g, rfl, _, _⟩ := g2 (j * 6 + 0) _ (ec_at hx 0 (by decide))
      refine ⟨g, rfl, fun i hi => ?_⟩
      have hs : ∃ u, (ec x)[i]? = some u := ⟨(ec x)[i]'(by rw [ec_len]; exact hi), List.getElem?_eq_getElem _⟩
      obtain ⟨u, hu⟩ := hs
      obtain ⟨g', e, _, hc⟩ := g2 (j * 6 + i) u ((ec_at hx i hi).trans hu)
      injection e with e
      injection e with e
      subst e
      rw [hc, hu])
  clear g1 g2 h1 h2
  go_enter Tryz.func10, Tryz.ntmps10
  go_wp2_with fail
  obtain ⟨n, hn⟩ : ∃ n, n = L.length := ⟨_, rfl⟩
  rw [← hn] at hL ⊢
  have HN := hid hn
  clear hn
  go_loopw [5] (fun i wr => ∃ j : Nat, j ≤ n ∧ i = .int .i64 j ∧ Two w wr a1 a2 L) (fun i _ => n - (intOf i).toNat)
  case atStart => exact ⟨0, Nat.zero_le _, rfl, HH.out⟩
  case round =>
    clear HH
    obtain ⟨j, hj, rfl, HX⟩ := hrel
    have H6 := hid HX
    clear HX
    by_cases hlt : j < n
    · have u0 : ((j : Int) < n) = True := eq_true (by omega)
      have u1 : decide ((j : Int) < n) = true := decide_eq_true (by omega)
      have u2 : IntKind.i64.wrap ((j : Int) + 1) = ((j + 1 : Nat) : Int) := by rw [IntKind.wrap_i64]; omega
      have u3 : (j < n) = True := eq_true hlt
      obtain ⟨x, hx⟩ : ∃ x, L[j]? = some x := ⟨_, List.getElem?_eq_getElem (by rw [← HN.out]; exact hlt)⟩
      obtain ⟨p1, rfl, q1⟩ := H6.out.one j x hx
      obtain ⟨p2, rfl, q2⟩ := H6.out.two j x hx
      clear q1 q2
      go_wp2_with fail
      refine region_text (by kernel_rfl) (by kernel_rfl) (fun _ _ W => Two w W (some ⟨p1, 0, none⟩) (some ⟨p2, 0, none⟩) L) H6.out.drew ?_
      iterate 9 ((try simp only [Act.put, List.setIfInBounds_toArray, List.set_cons_zero, List.set_cons_succ]); (refine t_pure ?_ (fun _ => rfl) (fun b γ W h => h) (fun b γ W h _ => ?_) ?_; rotate_left; · (obtain ⟨p1', e1, r1⟩ := h.one j x hx
                                                                                                                                                                                                              obtain ⟨p2', e2, r2⟩ := h.two j x hx
                                                                                                                                                                                                              injection e1 with e1; injection e1 with e1; subst e1
                                                                                                                                                                                                              injection e2 with e2; injection e2 with e2; subst e2
                                                                                                                                                                                                              have x0 := r1 0 (by decide); have x1 := r1 1 (by decide); have x2 := r1 2 (by decide); have x3 := r1 3 (by decide); have x4 := r1 4 (by decide); have x5 := r1 5 (by decide)
                                                                                                                                                                                                              have y0 := r2 0 (by decide); have y1 := r2 1 (by decide); have y2 := r2 2 (by decide); have y3 := r2 3 (by decide); have y4 := r2 4 (by decide); have y5 := r2 5 (by decide)
                                                                                                                                                                                                              simp only [ec, List.getElem?_cons_zero, List.getElem?_cons_succ, Nat.add_zero] at x0 x1 x2 x3 x4 x5 y0 y1 y2 y3 y4 y5
                                                                                                                                                                                                              clear r1 r2 h
                                                                                                                                                                                                              go_simp; first | rfl | (simp; done))))
      refine t_end ?_
      intro bq gq w2 hall h2
      (try simp only [Act.put, List.setIfInBounds_toArray, List.set_cons_zero, List.set_cons_succ])
      have H2 := hid h2
      clear hall h2 H6
      go_wp2_with fail
      go_roundw
      case rel => exact ⟨j + 1, by omega, by go_num, H2.out⟩
      case measure => simp [intOf]; omega
    · obtain rfl : j = n := by omega
      clear hlt hj
      go_wp2_with fail
      go_ret
      exact ⟨rfl, H6.out.below⟩
end Go.Proofs.YtpkpnaedacefaaaGreat.WireL

/- The document's wire beside a wire, in plain Lean. -/
namespace Go.Proofs.YtpkpnaedacefaaaGreat.WireQ
set_option linter.unusedVariables false
set_option linter.unusedSimpArgs false
open Go Go.Proofs.YtpkpnaedacefaaaGreat.Lib Go.Proofs.YtpkpnaedacefaaaGreat.Bits Go.Proofs.YtpkpnaedacefaaaGreat.BitsW Go.Proofs.YtpkpnaedacefaaaGreat.Frame Go.Proofs.YtpkpnaedacefaaaGreat.FrameW Go.Proofs.YtpkpnaedacefaaaGreat.Code Go.Proofs.YtpkpnaedacefaaaGreat.CodeW Go.Proofs.YtpkpnaedacefaaaGreat.CodeL Go.Proofs.YtpkpnaedacefaaaGreat.Mac Go.Proofs.YtpkpnaedacefaaaGreat.MacW Go.Proofs.YtpkpnaedacefaaaGreat.MacR Go.Proofs.YtpkpnaedacefaaaGreat.WireN Go.Proofs.YtpkpnaedacefaaaGreat.WireW Go.Proofs.YtpkpnaedacefaaaGreat.WireP
/-- The document's wire: its nodes, what each heard, the bits. -/
structure Rw where
  n : Nat
  qs : Nat → Q7
  hs : Nat → List Ev
  tr : List UInt8
def Rw.new (n : Nat) : Rw := ⟨n, fun _ => Q7.new, fun _ => [], []⟩
def Rw.one (r : Rw) : Bool := (List.range r.n).all fun i => (r.qs i).drive
/-- The first j nodes have gone on. -/
def Rw.mid (r : Rw) (b : Bool) (j : Nat) : Rw := { r with qs := fun i => if i < j then ((r.qs i).sample b).1 else r.qs i, hs := fun i => if i < j then keep (r.hs i ++ ((r.qs i).sample b).2) else r.hs i }
def Rw.evsTo (r : Rw) (b : Bool) (j : Nat) : List Ev := (List.range j).flatMap fun i => ((r.qs i).sample b).2
def Rw.bit (r : Rw) (flip : Bool) : Bool := r.one != flip
def Rw.step (r : Rw) (flip : Bool) : Rw := { r.mid (r.bit flip) r.n with tr := r.tr ++ [sg (r.bit flip)] }
def Rw.evs (r : Rw) (flip : Bool) : List Ev := r.evsTo (r.bit flip) r.n
def Rw.ask (r : Rw) (j : Nat) (f : Fm) : Rw := { r with qs := upd r.qs j ((r.qs j).ask f).1 }
/-- They go together; k: how many bits there were. -/
structure Bw (c : Gc) (r : Rw) (k : Nat) : Prop where
  n : r.n = c.n
  t : c.t = false
  fine : ∀ i, i < c.n → Fine (c.ms i)
  sim : ∀ i, i < c.n → Sim (c.ms i) (r.qs i)
  qi : ∀ i, i < c.n → QI (r.qs i) k
  hs : ∀ i, i < c.n → r.hs i = c.hs i
  tr : r.tr = c.l
  len : c.l.length = k
theorem Bw.one {c : Gc} {r : Rw} {k : Nat} (h : Bw c r k) : r.one = allD c.ms c.n := by
  unfold Rw.one allD
  rw [h.n]
  have : ∀ l : List Nat, (∀ i ∈ l, i < c.n) → (l.all fun i => (r.qs i).drive) = l.all fun i => (c.ms i).drive := by
    intro l
    induction l with
    | nil => intro _; rfl
    | cons x l ih => intro hl; rw [List.all_cons, List.all_cons, ih (fun i hi => hl i (List.mem_cons_of_mem _ hi)), sim_drive (h.sim x (hl x List.mem_cons_self))]
  exact this _ (fun i hi => List.mem_range.1 hi)
theorem bw_step {c : Gc} {r : Rw} {k : Nat} (h : Bw c r k) (hk : k < 8000) (flip : Bool) : Bw (c.step flip) (r.step flip) (k + 1) ∧ r.evs flip = c.evs flip := by
  have hb : (allD c.ms c.n != (c.t || flip)) = r.bit flip := by unfold Rw.bit; rw [h.one, h.t, Bool.false_or]
  obtain ⟨q1, q2, q3, q4⟩ := step_of (c := c) (flip := flip) hb (ms' := fun i => ((c.ms i).sample (r.bit flip)).1) (E := fun i => ((c.ms i).sample (r.bit flip)).2) (fun i _ => rfl)
  have e4 : more c.l (r.bit flip) = c.l ++ [sg (r.bit flip)] := by rw [more_sg, if_neg (by have := h.len; omega)]
  refine ⟨⟨h.n, rfl, fun i hi => ?_, fun i hi => ?_, fun i hi => ?_, fun i hi => ?_, ?_, ?_⟩, ?_⟩
  · rw [q1 i hi]; exact fine_sample (h.fine i hi) _
  · rw [q1 i hi]
    show Sim _ (if i < r.n then ((r.qs i).sample (r.bit flip)).1 else r.qs i)
    rw [if_pos (by rw [h.n]; exact hi)]
    exact (sim_sample (h.fine i hi) (h.sim i hi) _).2
  · show QI (if i < r.n then ((r.qs i).sample (r.bit flip)).1 else r.qs i) (k + 1)
    rw [if_pos (by rw [h.n]; exact hi)]
    exact qi_sample (h.sim i hi) (h.qi i hi) _
  · rw [q2 i hi]
    show (if i < r.n then keep (r.hs i ++ ((r.qs i).sample (r.bit flip)).2) else r.hs i) = _
    rw [if_pos (by rw [h.n]; exact hi), h.hs i hi, (sim_sample (h.fine i hi) (h.sim i hi) _).1]
  · rw [q4, e4, ← h.tr]; rfl
  · rw [q4, e4, List.length_append, h.len]; rfl
  · rw [q3]
    show (List.range r.n).flatMap (fun i => ((r.qs i).sample (r.bit flip)).2) = _
    rw [h.n]
    have : ∀ l : List Nat, (∀ i ∈ l, i < c.n) → l.flatMap (fun i => ((r.qs i).sample (r.bit flip)).2) = l.flatMap (fun i => ((c.ms i).sample (r.bit flip)).2) := by
      intro l
      induction l with
      | nil => intro _; rfl
      | cons x l ih => intro hl; rw [List.flatMap_cons, List.flatMap_cons, ih (fun i hi => hl i (List.mem_cons_of_mem _ hi)), (sim_sample (h.fine x (hl x List.mem_cons_self)) (h.sim x (hl x List.mem_cons_self)) _).1]
    exact this _ (fun i hi => List.mem_range.1 hi)
theorem bw_ask {c : Gc} {r : Rw} {k : Nat} (h : Bw c r k) (j : Nat) (hj : j < c.n) (f : Fm) (hf : f.wf) : Bw (c.ask j f) (r.ask j f) k ∧ ((c.ms j).ask f).2 = ((r.qs j).ask f).2 := by
  obtain ⟨s1, s2⟩ := sim_ask (h.sim j hj) f
  refine ⟨⟨h.n, h.t, fun i hi => ?_, fun i hi => ?_, fun i hi => ?_, h.hs, h.tr, h.len⟩, s1⟩
  · show Fine (upd c.ms j ((c.ms j).ask f).1 i)
    by_cases e : i = j
    · subst e; rw [upd_at]; exact fine_ask (h.fine i hj) hf
    · rw [upd_ne _ _ e]; exact h.fine i hi
  · show Sim (upd c.ms j ((c.ms j).ask f).1 i) (upd r.qs j ((r.qs j).ask f).1 i)
    by_cases e : i = j
    · subst e; rw [upd_at, upd_at]; exact s2
    · rw [upd_ne _ _ e, upd_ne _ _ e]; exact h.sim i hi
  · show QI (upd r.qs j ((r.qs j).ask f).1 i) k
    by_cases e : i = j
    · subst e; rw [upd_at]; exact qi_ask (h.qi i hj) hf
    · rw [upd_ne _ _ e]; exact h.qi i hi
theorem bw_new (n : Nat) : Bw (Gc.new n) (Rw.new n) 0 := ⟨rfl, rfl, fun _ _ => fine_new, fun _ _ => sim_new, fun _ _ => qi_new, fun _ _ => rfl, rfl, rfl⟩
end Go.Proofs.YtpkpnaedacefaaaGreat.WireQ

/- A slice of events that need not begin at its block's head; appending to it; cutting it. -/
namespace Go.Proofs.YtpkpnaedacefaaaGreat.WireQ
set_option linter.unusedVariables false
set_option linter.unusedSimpArgs false
open Go Go.RowKit Go.Proofs.YtpkpnaedacefaaaGreat.Lib Go.Proofs.YtpkpnaedacefaaaGreat.Mac Go.Proofs.YtpkpnaedacefaaaGreat.MacW Go.Proofs.YtpkpnaedacefaaaGreat.MacL Go.Proofs.YtpkpnaedacefaaaGreat.WireN Go.Proofs.YtpkpnaedacefaaaGreat.WireW Go.Proofs.YtpkpnaedacefaaaGreat.PrintMore
/-- A block of events. -/
def EvB (W : World) (g n : Nat) : Prop := ∃ cur, W.heap[g]? = some (.cells cur 60 (0, 0)) ∧ n ≤ cur.size
theorem EvB.lt {W : World} {g n : Nat} (h : EvB W g n) : g < W.heap.size := by obtain ⟨_, h, _⟩ := h; exact (Array.getElem?_eq_some_iff.1 h).1
theorem EvB.set {W : World} {g n : Nat} (h : EvB W g n) (b o : Nat) (u : Value) : EvB (W.setCell ⟨b, o, none⟩ u) g n := by
  obtain ⟨cur, h1, h2⟩ := h
  by_cases e : g = b
  · subst e
    refine ⟨cur.setIfInBounds o u, ?_, by simpa using h2⟩
    unfold World.setCell
    simp only
    rw [Array.getElem?_modify, if_pos rfl, h1]
    rfl
  · exact ⟨cur, (Below.heap_setCell W ⟨b, o, none⟩ u g e).trans h1, h2⟩
theorem EvB.setCells {g n : Nat} (b : Nat) : ∀ (vs : List Value) (o : Nat) {W : World}, EvB W g n → EvB (W.setCells b o vs) g n
  | [], _, _, h => h
  | v :: r, o, _, h => EvB.setCells b r (o + 1) (h.set b o v)
theorem EvB.cell {W : World} {g n i : Nat} (h : EvB W g n) (hi : i < n) : (W.cell? ⟨g, i, none⟩).isSome = true := by
  obtain ⟨cur, h1, h2⟩ := h
  have : W.cell? ⟨g, i, none⟩ = cur[i]? := by simp [World.cell?, h1]
  rw [this, Array.getElem?_eq_getElem (by omega)]
  rfl
theorem EvB.frozen {W : World} {g n : Nat} (h : EvB W g n) (i : Nat) : W.frozen? ⟨g, i, none⟩ = false := by
  obtain ⟨cur, h1, _⟩ := h
  simp [World.frozen?, h1]
theorem EvB.kp {F : Nat → Prop} {W W' : World} {g n : Nat} (h : EvB W g n) (k : Kp F W W') (hn : ¬ F g) : EvB W' g n := by
  have hl := h.lt
  obtain ⟨cur, h1, h2⟩ := h
  exact ⟨cur, (k.block g hl hn).trans h1, h2⟩
/-- A slice of events of the call's own; its block from cell o on. -/
def Hrow (W : World) (base : Nat) (v : Value) (L : List Ev) : Prop :=
  (v = .slice none 0 0 ∧ L = []) ∨ ∃ g o cap, v = .slice (some ⟨g, o, none⟩) L.length cap ∧ base ≤ g ∧ L.length ≤ cap ∧ EvB W g (o + cap * 6) ∧ ∀ j u, (L.flatMap ec)[j]? = some u → W.cell? ⟨g, o + j, none⟩ = some u
theorem Hrow.nil (W : World) (base : Nat) : Hrow W base (.slice none 0 0) [] := .inl ⟨rfl, rfl⟩
theorem cell_heap {W W' : World} {g i : Nat} (h : W'.heap[g]? = W.heap[g]?) : W'.cell? ⟨g, i, none⟩ = W.cell? ⟨g, i, none⟩ := by
  unfold World.cell?
  rw [h]
theorem Hrow.kp {F : Nat → Prop} {W W' : World} {base : Nat} {v : Value} {L : List Ev} (h : Hrow W base v L) (k : Kp F W W') (hn : ∀ i, v.ownBlock = some i → ¬ F i) : Hrow W' base v L := by
  rcases h with h | ⟨g, o, cap, rfl, h2, h3, h4, h5⟩
  · exact .inl h
  · have hg : ¬ F g := hn g rfl
    exact .inr ⟨g, o, cap, rfl, h2, h3, h4.kp k hg, fun j u hj => (cell_heap (k.block g h4.lt hg)).trans (h5 j u hj)⟩
theorem Hrow.of {W : World} {base : Nat} {v : Value} {L : List Ev} (h : Evs W base v L) : Hrow W base v L := by
  have h0 := h
  rcases h.2 with ⟨h1, h2⟩ | ⟨g, cap, cur, rfl, h3, h4, h5, h6, h7, h8⟩
  · exact .inl ⟨h1, List.eq_nil_of_length_eq_zero h2⟩
  · refine .inr ⟨g, 0, cap, rfl, h3, h5, ⟨cur, h4, by omega⟩, fun j u hj => ?_⟩
    have := World.ownsRow.cells h0 (g := g) rfl j u hj
    rw [Addr.add_mid] at this
    exact this
theorem Hrow.lt {W : World} {base : Nat} {v : Value} {L : List Ev} (h : Hrow W base v L) {k : Nat} (hk : v.ownBlock = some k) : base ≤ k ∧ k < W.heap.size := by
  rcases h with ⟨rfl, _⟩ | ⟨g, o, cap, rfl, h2, h3, h4, h5⟩
  · simp [Value.ownBlock] at hk
  · simp only [Value.ownBlock, Option.some.injEq] at hk
    subst hk
    exact ⟨h2, h4.lt⟩
theorem setCells_tape (b : Nat) : ∀ (vs : List Value) (o : Nat) (W : World), (W.setCells b o vs).tape = W.tape
  | [], _, _ => rfl
  | v :: r, o, W => setCells_tape b r (o + 1) (W.setCell ⟨b, o, none⟩ v)
theorem setCells_size (b : Nat) : ∀ (vs : List Value) (o : Nat) (W : World), (W.setCells b o vs).heap.size = W.heap.size
  | [], _, _ => rfl
  | v :: r, o, W => (setCells_size b r (o + 1) (W.setCell ⟨b, o, none⟩ v)).trans (by simp [World.setCell])
theorem run_app_h {W : World} {base b2 : Nat} {v v2 : Value} {L L2 : List Ev} (h1 : Hrow W base v L) (h2 : Evs W b2 v2 L2) (hb : base ≤ W.heap.size) (hl : L.length + L2.length ≤ 1000) :
    ∃ v' w', (Builtin.append_ #[43, 43] 43 #[v, v2]).run Tryz.prog W = .ok v' w' ∧ Hrow w' base v' (L ++ L2) ∧ Kp (fun q => v.ownBlock = some q) W w' ∧ (v'.ownBlock = v.ownBlock ∨ ∀ k, v'.ownBlock = some k → W.heap.size ≤ k) := by
  obtain ⟨i, hi, hz, hs, hby⟩ : ∃ i, Tryz.prog.info? 60 = some i ∧ i.zero.map (fun z => z.cells.size) = some 6 ∧ i.size = 6 ∧ i.bytes = 48 := by
    have := info_ev
    cases hq : Tryz.prog.info? 60 with
    | none => rw [hq] at this; cases this
    | some i =>
      rw [hq] at this
      simp only [Option.map_some, Option.some.injEq, Prod.mk.injEq] at this
      exact ⟨i, rfl, this.1, this.2.1, this.2.2⟩
  obtain ⟨z, hz0, hz1⟩ : ∃ z, i.zero = some z ∧ z.cells.size = 6 := by
    cases hq : i.zero with
    | none => rw [hq] at hz; cases hz
    | some z => rw [hq] at hz; simp only [Option.map_some, Option.some.injEq] at hz; exact ⟨z, rfl, hz⟩
  rcases h1 with ⟨rfl, rfl⟩ | ⟨g, o, cap, rfl, q2, q3, q4, q5⟩
  · rcases h2.2 with ⟨rfl, h0⟩ | ⟨g', cap', cur', rfl, _⟩
    · have : L2 = [] := List.eq_nil_of_length_eq_zero h0
      subst this
      refine ⟨.slice none 0 0, W, ?_, Hrow.nil W base, Kp.refl _ _, .inl rfl⟩
      simp [Builtin.append_, run_underlying Tryz.underlying43, sizeOf, typeInfo, hi, Builtin.lenOf, Builtin.firstCells, loadCells, loadCellsFrom]
    · obtain ⟨v', w', r1, r2, r3, _, r4⟩ := run_append_own_at (P := Tryz.prog) W base 43 43 60 i z 6 48 Tryz.underlying43 hi hz0 hs hby hz1 (by decide) (.slice none 0 0) 0 [] (World.ownsRow_nil W base _ 6) ⟨g', 0, none⟩ L2.length cap' (L2.flatMap ec) h2.1
        (World.ownsRow.cells h2 (g := g') rfl) (one_ec L2) (by unfold maxLen; omega) (by omega) hb
      refine ⟨v', w', r1, Hrow.of (L := [] ++ L2) ?_, Kp.of_grown r3, r4.imp id (fun e k hk => by rw [e] at hk; injection hk with hk; omega)⟩
      unfold Evs
      rw [List.length_append, List.flatMap_append]
      exact r2
  · rcases h2.2 with ⟨rfl, h0⟩ | ⟨g', cap', cur', rfl, _⟩
    · have : L2 = [] := List.eq_nil_of_length_eq_zero h0
      subst this
      refine ⟨.slice (some ⟨g, o, none⟩) L.length cap, W, ?_, .inr ⟨g, o, cap, by rw [List.append_nil], q2, by rw [List.append_nil]; exact q3, q4, by rw [List.append_nil]; exact q5⟩, Kp.refl _ _, .inl rfl⟩
      simp [Builtin.append_, run_underlying Tryz.underlying43, sizeOf, typeInfo, hi, Builtin.lenOf, Builtin.firstCells, loadCells, loadCellsFrom, storeCells, q3]
    · have hn := World.ownsRow.cells h2 (g := g') rfl
      have hlen : (L2.flatMap ec).length = L2.length * 6 := ecs_length L2
      have hlenL : (L.flatMap ec).length = L.length * 6 := ecs_length L
      by_cases hroom : L.length + L2.length ≤ cap
      · have hr := run_append_room_cells (P := Tryz.prog) W 43 43 60 i Tryz.underlying43 hi g o L.length cap ⟨g', 0, none⟩ L2.length cap' (L2.flatMap ec) (by rw [hs]; exact hlen) hn (one_ec L2) hroom
          (fun j hj => q4.cell (by rw [hs]; omega)) (fun j hj => q4.frozen _)
        rw [hs] at hr
        refine ⟨_, _, hr, .inr ⟨g, o, cap, by rw [List.length_append], q2, by rw [List.length_append]; exact hroom, EvB.setCells g _ _ q4, fun j u hj => ?_⟩, ⟨(World.os_setCells W g _ _), ?_, World.output_setCells W g _ _, ?_, fun k hk hne => World.heap_setCells_other W g _ _ hk (fun e => hne (by rw [e]; rfl))⟩, .inl rfl⟩
        · rw [List.flatMap_append] at hj
          by_cases hjl : j < L.length * 6
          · rw [List.getElem?_append_left (by omega)] at hj
            rw [World.cell?_setCells_out g _ _ _ _ (fun _ _ => .inl (by show o + j < _; omega))]
            exact q5 j u hj
          · rw [List.getElem?_append_right (by omega), hlenL] at hj
            have hjj := (List.getElem?_eq_some_iff.1 hj).1
            have := World.cell?_setCells_in g (L2.flatMap ec) (o + L.length * 6) W (fun j hj => q4.cell (by omega)) (j - L.length * 6) hjj
            rw [show o + L.length * 6 + (j - L.length * 6) = o + j by omega] at this
            rw [this, ← (List.getElem?_eq_some_iff.1 hj).2]
        · exact setCells_tape g _ _ W
        · exact Nat.le_of_eq (setCells_size g _ _ W).symm
      · obtain ⟨v', w', r1, r2, r3⟩ := run_append_arg_grows (P := Tryz.prog) W 43 43 60 i z 6 48 Tryz.underlying43 hi hz0 hs hby hz1 (by decide) ⟨g, o, none⟩ L.length cap (L.flatMap ec) hlenL (fun j u hj => by rw [Addr.add_mid]; exact q5 j u hj)
          ⟨g', 0, none⟩ L2.length cap' (L2.flatMap ec) hlen hn (by omega) (by unfold maxLen; omega) (by omega)
        have r2' : Evs w' W.heap.size v' (L ++ L2) := by
          unfold Evs
          rw [List.length_append, List.flatMap_append]
          exact r2
        refine ⟨v', w', r1, ?_, (Kp.of_grown r3).mono (fun _ e => by cases e), ?_⟩
        · rcases Hrow.of r2' with h | ⟨g1, o1, c1, e1, e2, e3, e4, e5⟩
          · exact .inl h
          · exact .inr ⟨g1, o1, c1, e1, Nat.le_trans hb e2, e3, e4, e5⟩
        · exact .inr (fun k hk => (Hrow.lt (Hrow.of r2') hk).1)
/-- The last hundred. -/
theorem Hrow.cut {W : World} {base g o cap : Nat} {L : List Ev} (h : Hrow W base (.slice (some ⟨g, o, none⟩) L.length cap) L) (hl : 100 ≤ L.length) : Hrow W base (.slice (some ⟨g, o + (L.length - 100) * 6, none⟩) 100 (cap - (L.length - 100))) (keep L) := by
  rcases h with ⟨h, _⟩ | ⟨g', o', cap', e, q2, q3, q4, q5⟩
  · cases h
  · injection e with e1 e2 e3
    injection e1 with e1
    injection e1 with e1 e4
    subst e1 e3 e4
    have hk : (keep L).length = 100 := by unfold keep; rw [List.length_drop]; omega
    refine .inr ⟨g, o + (L.length - 100) * 6, cap - (L.length - 100), by rw [hk], q2, by rw [hk]; omega, ?_, fun j u hj => ?_⟩
    · obtain ⟨cur, c1, c2⟩ := q4
      exact ⟨cur, c1, by omega⟩
    · have e : (L.flatMap ec)[(L.length - 100) * 6 + j]? = some u := by
        have key : ∀ (A B : List Ev) (j : Nat), ((A ++ B).flatMap ec)[A.length * 6 + j]? = (B.flatMap ec)[j]? := fun A B j => by
          rw [List.flatMap_append, List.getElem?_append_right (by rw [ecs_length]; omega), ecs_length, Nat.add_sub_cancel_left]
        have k2 := key (L.take (L.length - 100)) (keep L) j
        rw [show L.take (L.length - 100) ++ keep L = L from List.take_append_drop _ _, List.length_take, Nat.min_eq_left (by omega)] at k2
        exact k2.trans hj
      have := q5 _ u e
      rw [← Nat.add_assoc] at this
      exact this
end Go.Proofs.YtpkpnaedacefaaaGreat.WireQ

/- The document's wire in memory; what a call on it may change. -/
namespace Go.Proofs.YtpkpnaedacefaaaGreat.WireQ
set_option linter.unusedVariables false
set_option linter.unusedSimpArgs false
open Go Go.RowKit Go.Proofs.YtpkpnaedacefaaaGreat.Lib Go.Proofs.YtpkpnaedacefaaaGreat.Bits Go.Proofs.YtpkpnaedacefaaaGreat.BitsW Go.Proofs.YtpkpnaedacefaaaGreat.StuffW Go.Proofs.YtpkpnaedacefaaaGreat.Frame Go.Proofs.YtpkpnaedacefaaaGreat.FrameW Go.Proofs.YtpkpnaedacefaaaGreat.Code Go.Proofs.YtpkpnaedacefaaaGreat.CodeW Go.Proofs.YtpkpnaedacefaaaGreat.CodeL Go.Proofs.YtpkpnaedacefaaaGreat.Mac Go.Proofs.YtpkpnaedacefaaaGreat.MacW Go.Proofs.YtpkpnaedacefaaaGreat.MacL Go.Proofs.YtpkpnaedacefaaaGreat.RefW Go.Proofs.YtpkpnaedacefaaaGreat.MacR Go.Proofs.YtpkpnaedacefaaaGreat.WireN Go.Proofs.YtpkpnaedacefaaaGreat.WireW Go.Proofs.YtpkpnaedacefaaaGreat.PrintMore
abbrev PTr : TypeId := 38
abbrev EvT : TypeId := 60
abbrev EsT : TypeId := 43
abbrev WdT : TypeId := 32
/-- A row of bytes as a string. -/
def By (l : List UInt8) : ByteArray := ⟨l.toArray⟩
/-- Block g is of type T. -/
def Ty (W : World) (g : Nat) (T : TypeId) : Prop := ∃ cs z, W.heap[g]? = some (.cells cs T z)
theorem Ty.ne {W : World} {g g' : Nat} {T T' : TypeId} (h : Ty W g T) (h' : Ty W g' T') (hT : T ≠ T') : g ≠ g' := by
  rintro rfl
  obtain ⟨cs, z, h⟩ := h
  obtain ⟨cs', z', h'⟩ := h'
  rw [h] at h'
  simp at h'
  exact hT h'.2.1
theorem Ty.lt {W : World} {g : Nat} {T : TypeId} (h : Ty W g T) : g < W.heap.size := by obtain ⟨_, _, h⟩ := h; exact (Array.getElem?_eq_some_iff.1 h).1
theorem ty_blk {W : World} {g : Nat} {T : TypeId} {cs : List Value} (h : Blk W g T cs) : Ty W g T := ⟨_, _, h⟩
theorem ty_owns {W : World} {b : Nat} {e : TypeId} {s n : Nat} {v : Value} {xs : List Value} (h : W.ownsRow b e s v n xs) {k : Nat} (hk : v.ownBlock = some k) : Ty W k e := by
  rcases h.2 with ⟨rfl, _⟩ | ⟨g, cap, cur, rfl, _, h4, _⟩
  · simp [Value.ownBlock] at hk
  · simp only [Value.ownBlock, Option.some.injEq] at hk
    subst hk
    exact ⟨_, _, h4⟩
theorem ty_h {W : World} {b : Nat} {v : Value} {L : List Ev} (h : Hrow W b v L) {k : Nat} (hk : v.ownBlock = some k) : Ty W k EvT := by
  rcases h with ⟨rfl, _⟩ | ⟨g, o, cap, rfl, h2, h3, h4, h5⟩
  · simp [Value.ownBlock] at hk
  · simp only [Value.ownBlock, Option.some.injEq] at hk
    subst hk
    obtain ⟨cur, h, _⟩ := h4
    exact ⟨_, _, h⟩
/-- A row's first n cells. -/
def Rb (W : World) (g : Nat) (T : TypeId) (f : Nat → Value) (n : Nat) : Prop := ∃ cur, W.heap[g]? = some (.cells cur T (0, 0)) ∧ ∀ i, i < n → cur[i]? = some (f i)
theorem Rb.ty {W : World} {g n : Nat} {T : TypeId} {f : Nat → Value} (h : Rb W g T f n) : Ty W g T := by obtain ⟨cur, h, _⟩ := h; exact ⟨_, _, h⟩
theorem Rb.cell {W : World} {g n i : Nat} {T : TypeId} {f : Nat → Value} (h : Rb W g T f n) (hi : i < n) : W.cell? ⟨g, i, none⟩ = some (f i) := by
  obtain ⟨cur, h1, h2⟩ := h
  have : W.cell? ⟨g, i, none⟩ = cur[i]? := by simp [World.cell?, h1]
  rw [this]
  exact h2 i hi
theorem Rb.frozen {W : World} {g n : Nat} {T : TypeId} {f : Nat → Value} (h : Rb W g T f n) (i : Nat) : W.frozen? ⟨g, i, none⟩ = false := by
  obtain ⟨cur, h1, _⟩ := h
  simp [World.frozen?, h1]
theorem Rb.kp {F : Nat → Prop} {W W' : World} {g n : Nat} {T : TypeId} {f : Nat → Value} (h : Rb W g T f n) (k : Kp F W W') (hn : ¬ F g) : Rb W' g T f n := by
  have hl := h.ty.lt
  obtain ⟨cur, h1, h2⟩ := h
  exact ⟨cur, (k.block g hl hn).trans h1, h2⟩
theorem Rb.set {W : World} {g n i : Nat} {T : TypeId} {f : Nat → Value} (h : Rb W g T f n) (hi : i < n) (v : Value) : Rb (W.setCell ⟨g, i, none⟩ v) g T (WireW.upd f i v) n := by
  obtain ⟨cur, h1, h2⟩ := h
  refine ⟨cur.setIfInBounds i v, ?_, fun j hj => ?_⟩
  · unfold World.setCell
    simp only
    rw [Array.getElem?_modify, if_pos rfl, h1]
    rfl
  · have := (Array.getElem?_eq_some_iff.1 (h2 i hi)).1
    by_cases e : j = i
    · subst e
      rw [upd_at]
      simp [this]
    · rw [upd_ne _ _ e, Array.getElem?_setIfInBounds_ne (fun q => e q.symm)]
      exact h2 j hj
theorem Rb.congr {W : World} {g n : Nat} {T : TypeId} {f f' : Nat → Value} (h : Rb W g T f n) (e : ∀ i, i < n → f i = f' i) : Rb W g T f' n := by
  obtain ⟨cur, h1, h2⟩ := h
  exact ⟨cur, h1, fun i hi => by rw [← e i hi]; exact h2 i hi⟩
theorem Rb.of {W : World} {b n : Nat} {T : TypeId} {v : Value} {f : Nat → Value} (h : W.ownsRow b T 1 v n ((List.range n).map f)) (hn : 0 < n) : ∃ g cap, v = .slice (some ⟨g, 0, none⟩) n cap ∧ b ≤ g ∧ Rb W g T f n := by
  rcases h.2 with ⟨_, h0⟩ | ⟨g, cap, cur, rfl, h3, h4, h5, _, h6, h7⟩
  · omega
  · refine ⟨g, cap, rfl, h3, cur, h4, fun i hi => ?_⟩
    have e : (cur.toList.take (n * 1))[i]? = some (f i) := by rw [h7]; simp [hi]
    rw [List.getElem?_take_of_lt (by omega)] at e
    rw [← e]
    simp
/-- Where its parts lie. -/
structure Qa where
  gw : Nat
  gm : Nat
  gh : Nat
  cm : Nat
  ch : Nat
  p : Nat → Nat
  hr : Nat → Nat
  es : Nat → Value
def Qa.own (a : Qa) (n k : Nat) : Prop := k = a.gw ∨ k = a.gm ∨ k = a.gh ∨ (∃ i, i < n ∧ k = a.p i) ∨ (∃ i, i < n ∧ k = a.hr i) ∨ (∃ i, i < n ∧ (a.es i).ownBlock = some k)
structure RM (W : World) (D : Nat) (a : Qa) (r : Rw) : Prop where
  top : Blk W a.gw WdT [.slice (some ⟨a.gm, 0, none⟩) r.n a.cm, .slice (some ⟨a.gh, 0, none⟩) r.n a.ch, .string (By r.tr)]
  row : Rb W a.gm PTr (fun i => .pointer (some ⟨a.p i, 0, none⟩)) r.n
  hrow : Rb W a.gh EsT a.es r.n
  node : ∀ i, i < r.n → Blk W (a.p i) QT (qc (r.qs i) (a.hr i))
  rd : ∀ i, i < r.n → Blk W (a.hr i) RT (R3.cells (r.qs i).r)
  heard : ∀ i, i < r.n → Hrow W D (a.es i) (r.hs i)
  short : ∀ i, i < r.n → (r.hs i).length ≤ 200
  injp : ∀ i j, i < r.n → j < r.n → a.p i = a.p j → i = j
  injr : ∀ i j, i < r.n → j < r.n → a.hr i = a.hr j → i = j
  apart : ∀ i j k, i < r.n → j < r.n → (a.es i).ownBlock = some k → (a.es j).ownBlock = some k → i = j
  lw : D ≤ a.gw
  lm : D ≤ a.gm
  lh : D ≤ a.gh
  lp : ∀ i, i < r.n → D ≤ a.p i
  lr : ∀ i, i < r.n → D ≤ a.hr i
  caps : r.n ≤ a.cm ∧ r.n ≤ a.ch
  pos : 1 ≤ r.n
  most : r.n ≤ 8
theorem RM.own_lt {W : World} {D : Nat} {a : Qa} {r : Rw} (h : RM W D a r) {k : Nat} (hk : a.own r.n k) : D ≤ k ∧ k < W.heap.size := by
  rcases hk with rfl | rfl | rfl | ⟨i, hi, rfl⟩ | ⟨i, hi, rfl⟩ | ⟨i, hi, e⟩
  · exact ⟨h.lw, h.top.lt⟩
  · exact ⟨h.lm, h.row.ty.lt⟩
  · exact ⟨h.lh, h.hrow.ty.lt⟩
  · exact ⟨h.lp i hi, (h.node i hi).lt⟩
  · exact ⟨h.lr i hi, (h.rd i hi).lt⟩
  · exact (h.heard i hi).lt e
/-- What is done elsewhere. -/
theorem RM.kp {F : Nat → Prop} {W W' : World} {D : Nat} {a : Qa} {r : Rw} (h : RM W D a r) (k : Kp F W W') (hn : ∀ i, a.own r.n i → ¬ F i) : RM W' D a r :=
  ⟨blk_kp h.top k (hn _ (.inl rfl)), h.row.kp k (hn _ (.inr (.inl rfl))), h.hrow.kp k (hn _ (.inr (.inr (.inl rfl)))), fun i hi => blk_kp (h.node i hi) k (hn _ (.inr (.inr (.inr (.inl ⟨i, hi, rfl⟩))))),
    fun i hi => blk_kp (h.rd i hi) k (hn _ (.inr (.inr (.inr (.inr (.inl ⟨i, hi, rfl⟩)))))), fun i hi => (h.heard i hi).kp k (fun q e => hn _ (.inr (.inr (.inr (.inr (.inr ⟨i, hi, e⟩)))))), h.short, h.injp, h.injr, h.apart, h.lw, h.lm, h.lh, h.lp, h.lr, h.caps, h.pos, h.most⟩
theorem RM.below {W W' : World} {D : Nat} {a : Qa} {r : Rw} (h : RM W D a r) (k : Below W.heap.size W W') : RM W' D a r := h.kp (F := fun _ => False) (Kp.of_below k _) (fun _ _ e => e)
theorem Kp.of_g2 {W W' : World} {g gr : Nat} (h : G2 W W' g gr) : Kp (fun i => i = g ∨ i = gr) W W' := ⟨h.os, h.tape, h.output, h.size, fun i hi hn => h.block i hi (fun e => hn (.inl e)) (fun e => hn (.inr e))⟩
/-- One node's turn. -/
theorem RM.node_at {W W' : World} {D : Nat} {a : Qa} {r : Rw} {i hr' : Nat} {q' : Q7} (h : RM W D a r) (hi : i < r.n) (hD : D ≤ W.heap.size) (k : QP W W' (a.p i) (a.hr i) hr' q') : RM W' D { a with hr := WireW.upd a.hr i hr' } { r with qs := WireW.upd r.qs i q' } := by
  have hb := ty_blk (h.node i hi)
  have hb2 := ty_blk (h.rd i hi)
  have kk := Kp.of_g2 k.g2
  have ne : ∀ {g : Nat} {T : TypeId}, Ty W g T → T ≠ QT → T ≠ RT → ¬ (g = a.p i ∨ g = a.hr i) := fun t h1 h2 e => e.elim (t.ne hb h1) (t.ne hb2 h2)
  refine ⟨blk_kp h.top kk (ne (ty_blk h.top) (by decide) (by decide)), h.row.kp kk (ne h.row.ty (by decide) (by decide)), h.hrow.kp kk (ne h.hrow.ty (by decide) (by decide)), fun j hj => ?_, fun j hj => ?_,
    fun j hj => (h.heard j hj).kp kk (fun q e => ne (ty_h (h.heard j hj) e) (by decide) (by decide)), h.short, h.injp, fun j j' hj hj' e => ?_, h.apart, h.lw, h.lm, h.lh, h.lp, fun j hj => ?_, h.caps, h.pos, h.most⟩
  · show Blk W' (a.p j) QT (qc (WireW.upd r.qs i q' j) (WireW.upd a.hr i hr' j))
    by_cases e : j = i
    · subst e; rw [upd_at, upd_at]; exact k.node
    · rw [upd_ne _ _ e, upd_ne _ _ e]
      exact blk_kp (h.node j hj) kk (fun e2 => e2.elim (fun e2 => e (h.injp j i hj hi e2)) ((ty_blk (h.node j hj)).ne hb2 (by decide)))
  · show Blk W' (WireW.upd a.hr i hr' j) RT (R3.cells (WireW.upd r.qs i q' j).r)
    by_cases e : j = i
    · subst e; rw [upd_at, upd_at]; exact k.rd
    · rw [upd_ne _ _ e, upd_ne _ _ e]
      exact blk_kp (h.rd j hj) kk (fun e2 => e2.elim ((ty_blk (h.rd j hj)).ne hb (by decide)) (fun e2 => e (h.injr j i hj hi e2)))
  · change WireW.upd a.hr i hr' j = WireW.upd a.hr i hr' j' at e
    by_cases e1 : j = i
    · by_cases e2 : j' = i
      · rw [e1, e2]
      · subst e1
        rw [upd_at, upd_ne _ _ e2] at e
        rcases k.new with q | q
        · exact h.injr j j' hj hj' (q ▸ e)
        · have := (h.rd j' hj').lt; omega
    · rw [upd_ne _ _ e1] at e
      by_cases e2 : j' = i
      · subst e2
        rw [upd_at] at e
        rcases k.new with q | q
        · exact h.injr j j' hj hj' (q ▸ e)
        · have := (h.rd j hj).lt; omega
      · rw [upd_ne _ _ e2] at e
        exact h.injr j j' hj hj' e
  · show D ≤ WireW.upd a.hr i hr' j
    by_cases e : j = i
    · subst e; rw [upd_at]
      rcases k.new with q | q
      · rw [q]; exact h.lr j hj
      · omega
    · rw [upd_ne _ _ e]; exact h.lr j hj
/-- What a node heard is another row. -/
theorem RM.heard_at {W W' : World} {D : Nat} {a : Qa} {r : Rw} {i : Nat} {L : List Ev} {v : Value} (h : RM W D a r) (hi : i < r.n) (k : Kp (fun q => (a.es i).ownBlock = some q) W W') (hv : v.ownBlock = (a.es i).ownBlock ∨ ∀ q, v.ownBlock = some q → W.heap.size ≤ q)
    (hL : Hrow W' D v L) (hs : L.length ≤ 200) : RM (W'.setCell ⟨a.gh, i, none⟩ v) D { a with es := WireW.upd a.es i v } { r with hs := WireW.upd r.hs i L } := by
  have kk : Kp (fun q => (a.es i).ownBlock = some q ∨ q = a.gh) W (W'.setCell ⟨a.gh, i, none⟩ v) := (k.mono (fun q e => .inl e)).set _ _ (.inl (.inr rfl))
  have k2 : Kp (fun q => q = a.gh) W' (W'.setCell ⟨a.gh, i, none⟩ v) := (Kp.refl _ _).set _ _ (.inl rfl)
  have ne : ∀ {g : Nat} {T : TypeId}, Ty W g T → T ≠ EvT → T ≠ EsT → ¬ ((a.es i).ownBlock = some g ∨ g = a.gh) := fun t h1 h2 e => e.elim (fun e => (t.ne (ty_h (h.heard i hi) e) h1) rfl) (t.ne h.hrow.ty h2)
  have hh : ¬ (a.es i).ownBlock = some a.gh := fun e => (h.hrow.ty.ne (ty_h (h.heard i hi) e) (by decide)) rfl
  have r1 : Rb W' a.gh EsT a.es r.n := h.hrow.kp k hh
  have hvR : v.ownBlock ≠ some a.gh := fun e => (r1.ty.ne (ty_h hL e) (by decide)) rfl
  refine ⟨blk_kp h.top kk (ne (ty_blk h.top) (by decide) (by decide)), h.row.kp kk (ne h.row.ty (by decide) (by decide)), r1.set hi v, fun j hj => blk_kp (h.node j hj) kk (ne (ty_blk (h.node j hj)) (by decide) (by decide)), fun j hj => blk_kp (h.rd j hj) kk (ne (ty_blk (h.rd j hj)) (by decide) (by decide)),
    fun j hj => ?_, fun j hj => ?_, h.injp, h.injr, fun j j' q hj hj' e e' => ?_, h.lw, h.lm, h.lh, h.lp, h.lr, h.caps, h.pos, h.most⟩
  · show Hrow _ D (WireW.upd a.es i v j) (WireW.upd r.hs i L j)
    by_cases hji : j = i
    · subst hji; rw [upd_at, upd_at]
      exact hL.kp k2 (fun q e e2 => hvR (e.trans (congrArg some e2)))
    · rw [upd_ne _ _ hji, upd_ne _ _ hji]
      refine (h.heard j hj).kp kk (fun q e e2 => ?_)
      rcases e2 with e2 | e2
      · exact hji (h.apart j i q hj hi e e2)
      · exact (h.hrow.ty.ne (ty_h (h.heard j hj) (e.trans (congrArg some e2))) (by decide)) rfl
  · show (WireW.upd r.hs i L j).length ≤ 200
    by_cases hji : j = i
    · subst hji; rw [upd_at]; exact hs
    · rw [upd_ne _ _ hji]; exact h.short j hj
  · change (WireW.upd a.es i v j).ownBlock = some q at e
    change (WireW.upd a.es i v j').ownBlock = some q at e'
    by_cases h1 : j = i
    · by_cases h2 : j' = i
      · rw [h1, h2]
      · subst h1
        rw [upd_at] at e
        rw [upd_ne _ _ h2] at e'
        rcases hv with e2 | e2
        · exact h.apart j j' q hj hj' (e2 ▸ e) e'
        · have := ((h.heard j' hj').lt e').2
          have := e2 q e; omega
    · rw [upd_ne _ _ h1] at e
      by_cases h2 : j' = i
      · subst h2
        rw [upd_at] at e'
        rcases hv with e2 | e2
        · exact h.apart j j' q hj hj' e (e2 ▸ e')
        · have := ((h.heard j hj).lt e).2
          have := e2 q e'; omega
      · rw [upd_ne _ _ h2] at e'
        exact h.apart j j' q hj hj' e e'
/-- The bits, with one more. -/
theorem RM.trace_at {W : World} {D : Nat} {a : Qa} {r : Rw} (h : RM W D a r) (l : List UInt8) : RM (W.setCell ⟨a.gw, 2, none⟩ (.string (By l))) D a { r with tr := l } := by
  have kk : Kp (fun q => q = a.gw) W (W.setCell ⟨a.gw, 2, none⟩ (.string (By l))) := (Kp.refl _ _).set _ _ (.inl rfl)
  have t := ty_blk h.top
  exact ⟨h.top.set 2 _, h.row.kp kk (h.row.ty.ne t (by decide)), h.hrow.kp kk (h.hrow.ty.ne t (by decide)), fun j hj => blk_kp (h.node j hj) kk ((ty_blk (h.node j hj)).ne t (by decide)), fun j hj => blk_kp (h.rd j hj) kk ((ty_blk (h.rd j hj)).ne t (by decide)),
    fun j hj => (h.heard j hj).kp kk (fun q e => (ty_h (h.heard j hj) e).ne t (by decide)), h.short, h.injp, h.injr, h.apart, h.lw, h.lm, h.lh, h.lp, h.lr, h.caps, h.pos, h.most⟩
theorem RM.congr {W : World} {D : Nat} {a : Qa} {r r' : Rw} (h : RM W D a r) (hn : r'.n = r.n) (h1 : ∀ i, i < r.n → r'.qs i = r.qs i) (h2 : ∀ i, i < r.n → r'.hs i = r.hs i) (ht : r'.tr = r.tr) : RM W D a r' := by
  obtain ⟨n, qs, hs, tr⟩ := r
  obtain ⟨n', qs', hs', tr'⟩ := r'
  simp only at hn h1 h2 ht
  subst hn ht
  exact ⟨h.top, h.row, h.hrow, fun i hi => (congrArg (fun x => Blk W (a.p i) QT (qc x (a.hr i))) (h1 i hi)).mpr (h.node i hi), fun i hi => (congrArg (fun x => Blk W (a.hr i) RT (R3.cells x.r)) (h1 i hi)).mpr (h.rd i hi), fun i hi => (congrArg (Hrow W D (a.es i)) (h2 i hi)).mpr (h.heard i hi),
    fun i hi => (congrArg (fun x => List.length x ≤ 200) (h2 i hi)).mpr (h.short i hi), h.injp, h.injr, h.apart, h.lw, h.lm, h.lh, h.lp, h.lr, h.caps, h.pos, h.most⟩
/-- Its blocks behind a turn. -/
theorem own_hr {a : Qa} {n i hr' s : Nat} (hi : i < n) (hn : hr' = a.hr i ∨ s ≤ hr') {k : Nat} (h : Qa.own { a with hr := WireW.upd a.hr i hr' } n k) : a.own n k ∨ s ≤ k := by
  rcases h with h | h | h | h | ⟨j, hj, e⟩ | h
  · exact .inl (.inl h)
  · exact .inl (.inr (.inl h))
  · exact .inl (.inr (.inr (.inl h)))
  · exact .inl (.inr (.inr (.inr (.inl h))))
  · change k = WireW.upd a.hr i hr' j at e
    by_cases hji : j = i
    · subst hji
      rw [upd_at] at e
      subst e
      rcases hn with q | q
      · exact .inl (.inr (.inr (.inr (.inr (.inl ⟨j, hj, q⟩)))))
      · exact .inr q
    · rw [upd_ne _ _ hji] at e
      exact .inl (.inr (.inr (.inr (.inr (.inl ⟨j, hj, e⟩)))))
  · exact .inl (.inr (.inr (.inr (.inr (.inr h)))))
theorem own_es {a : Qa} {n i s : Nat} {v : Value} (hi : i < n) (hv : v.ownBlock = (a.es i).ownBlock ∨ ∀ q, v.ownBlock = some q → s ≤ q) {k : Nat} (h : Qa.own { a with es := WireW.upd a.es i v } n k) : a.own n k ∨ s ≤ k := by
  rcases h with h | h | h | h | h | ⟨j, hj, e⟩
  · exact .inl (.inl h)
  · exact .inl (.inr (.inl h))
  · exact .inl (.inr (.inr (.inl h)))
  · exact .inl (.inr (.inr (.inr (.inl h))))
  · exact .inl (.inr (.inr (.inr (.inr (.inl h)))))
  · change (WireW.upd a.es i v j).ownBlock = some k at e
    by_cases hji : j = i
    · subst hji
      rw [upd_at] at e
      rcases hv with q | q
      · exact .inl (.inr (.inr (.inr (.inr (.inr ⟨j, hj, q ▸ e⟩)))))
      · exact .inr (q k e)
    · rw [upd_ne _ _ hji] at e
      exact .inl (.inr (.inr (.inr (.inr (.inr ⟨j, hj, e⟩)))))
end Go.Proofs.YtpkpnaedacefaaaGreat.WireQ


/- Drawn regions in which it is known what has come up before what. -/
namespace Go.Proofs.YtpkpnaedacefaaaGreat.Lib
set_option linter.unusedVariables false
set_option linter.unusedSimpArgs false
open Go Go.RowKit
section
variable {P : Program} {ops : Array Oper} {T : (Nat → Bool) → (Nat → Nat) → World → Prop} {Fin : ((Nat → Nat) → Act) → Prop} {i : Nat} {o : Oper} {rest : List Oper} {a : (Nat → Nat) → Act}
theorem c_any (ho : ops[i]? = some o) (v : (Nat → Nat) → Value) (hv : Hangs ops i v) (hw : ∀ g, Region.wanted o (yielded ops (a g).tmps) = true)
    (h : ∀ b g w, Closed ops b → T b g w → b i = false → (∀ j ∈ needsOf o, b j = true) → ∃ n w', (execOp (a g).eval o).run P w = .ok (.value (v (Lib.upd g i n))) w' ∧ T (up b i) (Lib.upd g i n) w')
    (hr : TextRun P ops (CS ops T) Fin (i + 1) rest (fun g => (a g).put o.dst (v g))) : TextRun P ops (CS ops T) Fin i (o :: rest) a :=
  ⟨v, hv, fun b g w hs hb hj _ => .inl ⟨hw g, by
    obtain ⟨n, w', h1, h2⟩ := h b g w hs.1 hs.2 hb hj
    unfold Oper.wp
    rw [h1]
    exact ⟨n, rfl, ⟨closed_up hs.1 ho hj, h2⟩⟩⟩, hr⟩
theorem c_run (ho : ops[i]? = some o) (v : Value) (hw : ∀ g, Region.wanted o (yielded ops (a g).tmps) = true)
    (h : ∀ b g w, Closed ops b → T b g w → b i = false → (∀ j ∈ needsOf o, b j = true) → ∃ w', (execOp (a g).eval o).run P w = .ok (.value v) w' ∧ T (up b i) g w')
    (hr : TextRun P ops (CS ops T) Fin (i + 1) rest (fun g => (a g).put o.dst v)) : TextRun P ops (CS ops T) Fin i (o :: rest) a :=
  ⟨fun _ => v, hangs_const, fun b g w hs hb hj _ => .inl ⟨hw g, by
    obtain ⟨w', h1, h2⟩ := h b g w hs.1 hs.2 hb hj
    unfold Oper.wp
    rw [h1]
    exact ⟨g i, rfl, by rw [upd_same]; exact ⟨closed_up hs.1 ho hj, h2⟩⟩⟩, hr⟩
theorem c_store (ho : ops[i]? = some o) (hw : ∀ g, Region.wanted o (yielded ops (a g).tmps) = true)
    (h : ∀ b g w, Closed ops b → T b g w → b i = false → (∀ j ∈ needsOf o, b j = true) → ∃ w', (execOp (a g).eval o).run P w = .ok .skip w' ∧ T (up b i) g w')
    (hr : TextRun P ops (CS ops T) Fin (i + 1) rest (fun g => (a g).put o.dst undef)) : TextRun P ops (CS ops T) Fin i (o :: rest) a :=
  ⟨fun _ => undef, hangs_const, fun b g w hs hb hj _ => .inl ⟨hw g, by
    obtain ⟨w', h1, h2⟩ := h b g w hs.1 hs.2 hb hj
    unfold Oper.wp
    rw [h1]
    exact ⟨g i, rfl, by rw [upd_same]; exact ⟨closed_up hs.1 ho hj, h2⟩⟩⟩, hr⟩
/-- What waits for an operation that hasn't come up hasn't come up. -/
theorem closed_not {b : Nat → Bool} (h : Closed ops b) {i j : Nat} (f : Nat) (hr : reach ops f j i = true) (hb : b i = false) : b j = false := by
  cases hj : b j
  · rfl
  · have := closed_reach h f j i hr hj
    rw [hb] at this
    cases this
end
end Go.Proofs.YtpkpnaedacefaaaGreat.Lib

/- The document's wire: made. -/
namespace Go.Proofs.YtpkpnaedacefaaaGreat.WireQ
set_option linter.unusedVariables false
set_option linter.unusedSimpArgs false
open Go Go.RowKit Go.Proofs.YtpkpnaedacefaaaGreat.Lib Go.Proofs.YtpkpnaedacefaaaGreat.Bits Go.Proofs.YtpkpnaedacefaaaGreat.BitsW Go.Proofs.YtpkpnaedacefaaaGreat.StuffW Go.Proofs.YtpkpnaedacefaaaGreat.Frame Go.Proofs.YtpkpnaedacefaaaGreat.FrameW Go.Proofs.YtpkpnaedacefaaaGreat.Code Go.Proofs.YtpkpnaedacefaaaGreat.CodeW Go.Proofs.YtpkpnaedacefaaaGreat.CodeL Go.Proofs.YtpkpnaedacefaaaGreat.Mac Go.Proofs.YtpkpnaedacefaaaGreat.MacW Go.Proofs.YtpkpnaedacefaaaGreat.MacL Go.Proofs.YtpkpnaedacefaaaGreat.RefW Go.Proofs.YtpkpnaedacefaaaGreat.MacR Go.Proofs.YtpkpnaedacefaaaGreat.WireN Go.Proofs.YtpkpnaedacefaaaGreat.WireW Go.Proofs.YtpkpnaedacefaaaGreat.PrintMore
attribute [local go_sem] max2_int min2_int max_two min_two
def ptrs (p : Nat → Nat) (n : Nat) : List Value := (List.range n).map fun i => .pointer (some ⟨p i, 0, none⟩)
def nils (n : Nat) : List Value := (List.range n).map fun _ => .slice none 0 0
theorem ptrs_succ (p : Nat → Nat) (n : Nat) : ptrs p (n + 1) = ptrs p n ++ [.pointer (some ⟨p n, 0, none⟩)] := by unfold ptrs; rw [List.range_succ, List.map_append]; rfl
theorem nils_succ (n : Nat) : nils (n + 1) = nils n ++ [.slice none 0 0] := by unfold nils; rw [List.range_succ, List.map_append]; rfl
theorem ptrs_congr {p p' : Nat → Nat} {n : Nat} (h : ∀ i, i < n → p i = p' i) : ptrs p n = ptrs p' n := by
  unfold ptrs
  exact List.map_congr_left fun i hi => by rw [h i (List.mem_range.1 hi)]
/-- While it is made: n nodes there are, j in the row, k rows of events. -/
structure Mm (w W : World) (D gw : Nat) (mt ht mv hv : Value) (p hr : Nat → Nat) (n j k : Nat) : Prop where
  top : Blk W gw WdT [mt, ht, .string (By [])]
  row : W.ownsRow D PTr 1 mv j (ptrs p j)
  hrow : W.ownsRow D EsT 1 hv k (nils k)
  node : ∀ i, i < n → Blk W (p i) QT (qc Q7.new (hr i)) ∧ D ≤ p i
  rd : ∀ i, i < n → Blk W (hr i) RT (R3.cells Q7.new.r) ∧ D ≤ hr i
  injp : ∀ i i', i < n → i' < n → p i = p i' → i = i'
  injr : ∀ i i', i < n → i' < n → hr i = hr i' → i = i'
  lw : D ≤ gw
  bl : Below D w W
theorem Mm.later {w W W' : World} {D gw : Nat} {mt ht mv hv : Value} {p hr : Nat → Nat} {n j k : Nat} (h : Mm w W D gw mt ht mv hv p hr n j k) (q : Below W.heap.size W W') : Mm w W' D gw mt ht mv hv p hr n j k :=
  ⟨h.top.below q, owns_kp (F := fun _ => False) h.row (Kp.of_below q _) (fun _ _ e => e), owns_kp (F := fun _ => False) h.hrow (Kp.of_below q _) (fun _ _ e => e), fun i hi => ⟨(h.node i hi).1.below q, (h.node i hi).2⟩, fun i hi => ⟨(h.rd i hi).1.below q, (h.rd i hi).2⟩, h.injp, h.injr, h.lw, h.bl.trans (q.mono (Nat.le_trans h.lw (Nat.le_of_lt h.top.lt)))⟩
/-- A node more. -/
theorem Mm.more {w W W' : World} {D gw : Nat} {mt ht mv hv : Value} {p hr : Nat → Nat} {j k g gr : Nat} (h : Mm w W D gw mt ht mv hv p hr j j k) (q : Below W.heap.size W W') (hD : D ≤ W.heap.size) (h1 : W.heap.size ≤ g) (h2 : W.heap.size ≤ gr) (b1 : Blk W' g QT (qc Q7.new gr)) (b2 : Blk W' gr RT (R3.cells Q7.new.r)) :
    Mm w W' D gw mt ht mv hv (WireW.upd p j g) (WireW.upd hr j gr) (j + 1) j k := by
  have hh := h.later q
  refine ⟨hh.top, ?_, hh.hrow, fun i hi => ?_, fun i hi => ?_, fun i i' hi hi' e => ?_, fun i i' hi hi' e => ?_, h.lw, hh.bl⟩
  · rw [ptrs_congr (p' := p) fun i hi => upd_ne _ _ (by omega)]; exact hh.row
  · by_cases e : i = j
    · subst e; rw [upd_at, upd_at]; exact ⟨b1, by omega⟩
    · rw [upd_ne _ _ e, upd_ne _ _ e]; exact hh.node i (by omega)
  · by_cases e : i = j
    · subst e; rw [upd_at]; exact ⟨b2, by omega⟩
    · rw [upd_ne _ _ e]; exact hh.rd i (by omega)
  · by_cases e1 : i = j
    · by_cases e2 : i' = j
      · rw [e1, e2]
      · subst e1; rw [upd_at, upd_ne _ _ e2] at e
        have := (h.node i' (by omega)).1.lt; omega
    · by_cases e2 : i' = j
      · subst e2; rw [upd_at, upd_ne _ _ e1] at e
        have := (h.node i (by omega)).1.lt; omega
      · rw [upd_ne _ _ e1, upd_ne _ _ e2] at e; exact h.injp i i' (by omega) (by omega) e
  · by_cases e1 : i = j
    · by_cases e2 : i' = j
      · rw [e1, e2]
      · subst e1; rw [upd_at, upd_ne _ _ e2] at e
        have := (h.rd i' (by omega)).1.lt; omega
    · by_cases e2 : i' = j
      · subst e2; rw [upd_at, upd_ne _ _ e1] at e
        have := (h.rd i (by omega)).1.lt; omega
      · rw [upd_ne _ _ e1, upd_ne _ _ e2] at e; exact h.injr i i' (by omega) (by omega) e
theorem owns_kg {W W' : World} {b : Nat} {e : TypeId} {s n : Nat} {v : Value} {xs : List Value} {r : Option Nat} (h : W.ownsRow b e s v n xs) (k : W.grownBy W' r) (hn : ∀ i, v.ownBlock = some i → r ≠ some i) : W'.ownsRow b e s v n xs := owns_kp h (Kp.of_grown k) (fun i e => hn i e)
/-- The row of nodes, appended to. -/
theorem Mm.app {w W W' : World} {D gw : Nat} {mt ht mv hv mv' : Value} {p hr : Nat → Nat} {n j j' k : Nat} (h : Mm w W D gw mt ht mv hv p hr n j k) (q : W.grownBy W' mv.ownBlock) (r : W'.ownsRow D PTr 1 mv' j' (ptrs p j')) : Mm w W' D gw mt ht mv' hv p hr n j' k := by
  have ne : ∀ {g : Nat} {T : TypeId}, Ty W g T → T ≠ PTr → some g ≠ mv.ownBlock := fun t h1 e => (t.ne (ty_owns h.row e.symm) h1) rfl
  exact ⟨h.top.grown q (ne (ty_blk h.top) (by decide)), r, owns_kg h.hrow q (fun i e e2 => ne (ty_owns h.hrow e) (by decide) e2.symm), fun i hi => ⟨(h.node i hi).1.grown q (ne (ty_blk (h.node i hi).1) (by decide)), (h.node i hi).2⟩, fun i hi => ⟨(h.rd i hi).1.grown q (ne (ty_blk (h.rd i hi).1) (by decide)), (h.rd i hi).2⟩, h.injp, h.injr, h.lw, (Kp.of_grown q).below h.bl (Nat.le_trans h.lw (Nat.le_of_lt h.top.lt)) (fun i e => (owns_lt h.row e).1)⟩
theorem Mm.apph {w W W' : World} {D gw : Nat} {mt ht mv hv hv' : Value} {p hr : Nat → Nat} {n j k k' : Nat} (h : Mm w W D gw mt ht mv hv p hr n j k) (q : W.grownBy W' hv.ownBlock) (r : W'.ownsRow D EsT 1 hv' k' (nils k')) : Mm w W' D gw mt ht mv hv' p hr n j k' := by
  have ne : ∀ {g : Nat} {T : TypeId}, Ty W g T → T ≠ EsT → some g ≠ hv.ownBlock := fun t h1 e => (t.ne (ty_owns h.hrow e.symm) h1) rfl
  exact ⟨h.top.grown q (ne (ty_blk h.top) (by decide)), owns_kg h.row q (fun i e e2 => ne (ty_owns h.row e) (by decide) e2.symm), r, fun i hi => ⟨(h.node i hi).1.grown q (ne (ty_blk (h.node i hi).1) (by decide)), (h.node i hi).2⟩, fun i hi => ⟨(h.rd i hi).1.grown q (ne (ty_blk (h.rd i hi).1) (by decide)), (h.rd i hi).2⟩, h.injp, h.injr, h.lw, (Kp.of_grown q).below h.bl (Nat.le_trans h.lw (Nat.le_of_lt h.top.lt)) (fun i e => (owns_lt h.hrow e).1)⟩
/-- The world's own cells. -/
theorem Mm.put {w W : World} {D gw : Nat} {mt ht mv hv : Value} {p hr : Nat → Nat} {n j k : Nat} (h : Mm w W D gw mt ht mv hv p hr n j k) (i : Nat) (v mt' ht' : Value) (hc : [mt, ht, .string (By [])].set i v = [mt', ht', .string (By [])]) : Mm w (W.setCell ⟨gw, i, none⟩ v) D gw mt' ht' mv hv p hr n j k := by
  have kk : Kp (fun q => q = gw) W (W.setCell ⟨gw, i, none⟩ v) := (Kp.refl _ _).set _ _ (.inl rfl)
  have t := ty_blk h.top
  have hb := h.top.set i v
  rw [hc] at hb
  exact ⟨hb, owns_kp h.row kk (fun q e => (ty_owns h.row e).ne t (by decide)), owns_kp h.hrow kk (fun q e => (ty_owns h.hrow e).ne t (by decide)), fun i hi => ⟨blk_kp (h.node i hi).1 kk ((ty_blk (h.node i hi).1).ne t (by decide)), (h.node i hi).2⟩, fun i hi => ⟨blk_kp (h.rd i hi).1 kk ((ty_blk (h.rd i hi).1).ne t (by decide)), (h.rd i hi).2⟩, h.injp, h.injr, h.lw, kk.below h.bl (Nat.le_trans h.lw (Nat.le_of_lt h.top.lt)) (fun i e => e ▸ h.lw)⟩
theorem Mm.done {w W : World} {D gw : Nat} {mv hv : Value} {p hr : Nat → Nat} {n : Nat} (h : Mm w W D gw mv hv mv hv p hr n n n) (h1 : 1 ≤ n) (h8 : n ≤ 8) : ∃ a : Qa, a.gw = gw ∧ RM W D a (Rw.new n) := by
  obtain ⟨gm, cm, rfl, q1, q2⟩ := Rb.of (f := fun i => .pointer (some ⟨p i, 0, none⟩)) h.row h1
  obtain ⟨gh, ch, rfl, q3, q4⟩ := Rb.of (f := fun _ => .slice none 0 0) h.hrow h1
  have c1 : n ≤ cm := by
    rcases h.row.2 with ⟨e, _⟩ | ⟨g, cap, cur, e, _, _, hl, _⟩
    · cases e
    · injection e with e1 e2 e3; omega
  have c2 : n ≤ ch := by
    rcases h.hrow.2 with ⟨e, _⟩ | ⟨g, cap, cur, e, _, _, hl, _⟩
    · cases e
    · injection e with e1 e2 e3; omega
  refine ⟨⟨gw, gm, gh, cm, ch, p, hr, fun _ => .slice none 0 0⟩, rfl, ⟨h.top, q2, q4, fun i hi => (h.node i hi).1, fun i hi => (h.rd i hi).1, fun i _ => Hrow.nil W D, fun i _ => Nat.zero_le _, h.injp, h.injr, fun i j k _ _ e => ?_, h.lw, q1, q3, fun i hi => (h.node i hi).2, fun i hi => (h.rd i hi).2, ⟨c1, c2⟩, h1, h8⟩⟩
  simp [Value.ownBlock] at e
theorem info_ptr : (Tryz.prog.info? PTr).map (fun i => (i.zero, i.size, i.bytes)) = some (some (.pointer none), 1, 8) := by kernel_rfl
theorem info_sl : (Tryz.prog.info? EsT).map (fun i => (i.zero, i.size, i.bytes)) = some (some (.slice none 0 0), 1, 24) := by kernel_rfl
theorem parts {T : TypeId} {z : Value} {s b : Nat} (h : (Tryz.prog.info? T).map (fun i => (i.zero, i.size, i.bytes)) = some (some z, s, b)) : ∃ i, Tryz.prog.info? T = some i ∧ i.zero = some z ∧ i.size = s ∧ i.bytes = b := by
  cases hq : Tryz.prog.info? T with
  | none => rw [hq] at h; cases h
  | some i =>
    rw [hq] at h
    simp only [Option.map_some, Option.some.injEq, Prod.mk.injEq] at h
    exact ⟨i, rfl, h.1, h.2.1, h.2.2⟩
/-- One more, appended. -/
theorem app_ptr {W : World} {D g j : Nat} {mv : Value} {p : Nat → Nat} (h : W.ownsRow D PTr 1 mv j (ptrs p j)) (hb : Blk W g PTr [.pointer (some ⟨p j, 0, none⟩)]) (hD : D ≤ W.heap.size) (hj : j ≤ 100) :
    ∃ v' w', (Builtin.append_ #[29, 29] 29 #[mv, .slice (some ⟨g, 0, none⟩) 1 1]).run Tryz.prog W = .ok v' w' ∧ w'.ownsRow D PTr 1 v' (j + 1) (ptrs p (j + 1)) ∧ W.grownBy w' mv.ownBlock := by
  obtain ⟨i, h1, h2, h3, h4⟩ := parts info_ptr
  obtain ⟨v', w', r1, r2, r3, _⟩ := run_append_own_at (P := Tryz.prog) W D 29 29 PTr i (.pointer none) 1 8 Tryz.underlying29 h1 h2 h3 h4 rfl (by decide) mv j (ptrs p j) h ⟨g, 0, none⟩ 1 1 [.pointer (some ⟨p j, 0, none⟩)] rfl
    (fun q u hq => by
      cases q with
      | zero => simp at hq; subst hq; exact hb.cell 0
      | succ q => simp at hq) (fun u hu => by simp at hu; subst hu; rfl) (by unfold maxLen; omega) (by omega) hD
  exact ⟨v', w', r1, by rw [ptrs_succ]; exact r2, r3⟩
theorem app_nil {W : World} {D g j : Nat} {hv : Value} (h : W.ownsRow D EsT 1 hv j (nils j)) (hb : Blk W g EsT [.slice none 0 0]) (hD : D ≤ W.heap.size) (hj : j ≤ 100) :
    ∃ v' w', (Builtin.append_ #[30, 30] 30 #[hv, .slice (some ⟨g, 0, none⟩) 1 1]).run Tryz.prog W = .ok v' w' ∧ w'.ownsRow D EsT 1 v' (j + 1) (nils (j + 1)) ∧ W.grownBy w' hv.ownBlock := by
  obtain ⟨i, h1, h2, h3, h4⟩ := parts info_sl
  obtain ⟨v', w', r1, r2, r3, _⟩ := run_append_own_at (P := Tryz.prog) W D 30 30 EsT i (.slice none 0 0) 1 24 Tryz.underlying30 h1 h2 h3 h4 rfl (by decide) hv j (nils j) h ⟨g, 0, none⟩ 1 1 [.slice none 0 0] rfl
    (fun q u hq => by
      cases q with
      | zero => simp at hq; subst hq; exact hb.cell 0
      | succ q => simp at hq) (fun u hu => by simp at hu; subst hu; rfl) (by unfold maxLen; omega) (by omega) hD
  exact ⟨v', w', r1, by rw [nils_succ]; exact r2, r3⟩
def mn8 (n : Int) : Int := if 8 < n then 8 else n
theorem mn8_eq (n : Int) : (if 8 < n then 8 else n) = mn8 n := rfl
theorem mn8_k (n : Int) : (if 1 < mn8 n then mn8 n else 1) = (kOf n : Int) := by
  unfold mn8 kOf
  split <;> split <;> split <;> omega
theorem decV_cases (n k : Nat) : decV n k = .slice none 0 0 ∨ ∃ g c, decV n k = .slice (some ⟨g, 0, none⟩) n c := by
  cases k with
  | zero => exact .inl rfl
  | succ k => exact .inr ⟨_, _, rfl⟩
/-- An append, in a region. -/
theorem exec_app {P : Program} {W w' : World} {o : Oper} {a : Act} {T : TypeId} {sl x : Operand} {v1 v2 v' : Value} (ho : o.op = .call { callee := .builtin .append, args := #[sl, x], argTypes := #[T, T] }) (hty : o.type = T) (hs : a.eval sl = v1) (hx : a.eval x = v2)
    (r : (Builtin.append_ #[T, T] T #[v1, v2]).run P W = .ok v' w') : (execOp a.eval o).run P W = .ok (.value v') w' := by
  obtain ⟨dst, op, ty, pos, after, guard⟩ := o
  simp only at ho hty
  subst ho hty hs hx
  unfold execOp
  simp only [resolve, invoke, builtin, Sem.run_bind, Sem.run_pure, Result.andThen_ok, List.map_toArray, List.map_cons, List.map_nil]
  erw [r]
  rfl
theorem app_any {P : Program} {W w' : World} {ops : Array Oper} {rest : List Oper} {o : Oper} {a : Act} {Q : Exit → Act → World → Prop} {T : TypeId} {v1 v2 v' : Value} (hgd : o.guard = none) (sl x : Operand)
    (ho : o.op = .call { callee := .builtin .append, args := #[sl, x], argTypes := #[T, T] }) (hty : o.type = T) (hs : a.eval sl = v1) (hx : a.eval x = v2)
    (r : (Builtin.append_ #[T, T] T #[v1, v2]).run P W = .ok v' w') (h : wpList P ops Q rest (a.put o.dst v') w') : wpList P ops Q (o :: rest) a W := by
  have hr := exec_app ho hty hs hx r
  obtain ⟨dst, op, ty, pos, after, guard⟩ := o
  simp only at hgd ho hty
  subst hgd ho hty hs hx
  refine wpList_plain rfl fun K hK => ?_
  unfold Oper.wp
  simp only [hr]
  exact hK _ _ h
/-- The region that makes a node. -/
structure N5 (w : World) (D gw j : Nat) (mt ht hv : Value) (p hr : Nat → Nat) (b : Nat → Bool) (γ : Nat → Nat) (W : World) : Prop where
  big : D ≤ W.heap.size
  s0 : b 5 = false → Mm w W D gw mt ht mt hv p hr j j j
  s1 : b 5 = true → b 7 = false → ∃ gr, Mm w W D gw mt ht mt hv (WireW.upd p j (γ 5)) (WireW.upd hr j gr) (j + 1) j j
  s2 : b 7 = true → b 10 = false → ∃ gr, Mm w W D gw mt ht (decV (j + 1) (γ 7)) hv (WireW.upd p j (γ 5)) (WireW.upd hr j gr) (j + 1) (j + 1) j
  s3 : b 10 = true → ∃ gr, Mm w W D gw (decV (j + 1) (γ 7)) ht (decV (j + 1) (γ 7)) hv (WireW.upd p j (γ 5)) (WireW.upd hr j gr) (j + 1) (j + 1) j
  one : b 6 = true → b 7 = false → Blk W (γ 6) PTr [.pointer (some ⟨γ 5, 0, none⟩)]
theorem N5.up {w : World} {D gw j : Nat} {mt ht hv : Value} {p hr : Nat → Nat} {b : Nat → Bool} {γ : Nat → Nat} {W : World} (h : N5 w D gw j mt ht hv p hr b γ W) (i : Nat) (h5 : i ≠ 5) (h6 : i ≠ 6) (h7 : i ≠ 7) (h10 : i ≠ 10) : N5 w D gw j mt ht hv p hr (up b i) γ W := by
  have e5 : Lib.up b i 5 = b 5 := up_of_ne (fun e => h5 e.symm)
  have e6 : Lib.up b i 6 = b 6 := up_of_ne (fun e => h6 e.symm)
  have e7 : Lib.up b i 7 = b 7 := up_of_ne (fun e => h7 e.symm)
  have e10 : Lib.up b i 10 = b 10 := up_of_ne (fun e => h10 e.symm)
  exact ⟨h.big, by rw [e5]; exact h.s0, by rw [e5, e7]; exact h.s1, by rw [e7, e10]; exact h.s2, by rw [e10]; exact h.s3, by rw [e6, e7]; exact h.one⟩
theorem N5.top {w : World} {D gw j : Nat} {mt ht hv : Value} {p hr : Nat → Nat} {b : Nat → Bool} {γ : Nat → Nat} {W : World} (h : N5 w D gw j mt ht hv p hr b γ W) (h10 : b 10 = false) : Blk W gw WdT [mt, ht, .string (By [])] := by
  cases e5 : b 5
  · exact (h.s0 e5).top
  · cases e7 : b 7
    · obtain ⟨gr, q⟩ := h.s1 e5 e7
      exact q.top
    · obtain ⟨gr, q⟩ := h.s2 e7 h10
      exact q.top
attribute [local go_sem] mn8_eq
set_option maxRecDepth 100000 in
set_option maxHeartbeats 6400000 in
theorem made_calls (n : Int) (w : World) : Calls Tryz.prog 6 #[.int .i64 n] w fun e w' => ∃ a : Qa, e = .returned (.pointer (some ⟨a.gw, 0, none⟩)) ∧ RM w' w.heap.size a (Rw.new (kOf n)) ∧ Below w.heap.size w w' := by
  obtain ⟨k, hk⟩ : ∃ k, k = kOf n := ⟨_, rfl⟩
  have e7 := mn8_k n
  obtain ⟨h1, h8⟩ := k_pos n
  rw [← hk] at e7 h1 h8 ⊢
  have H1 := hid h1
  have H8 := hid h8
  clear h1 h8 hk
  go_enter Tryz.func6, Tryz.ntmps6
  go_wp2_with fail
  have HN := hid (show Mm w (w.alloc (.cells #[.slice none 0 0, .slice none 0 0, .string ⟨#[]⟩] WdT)) w.heap.size w.heap.size (.slice none 0 0) (.slice none 0 0) (.slice none 0 0) (.slice none 0 0) (fun _ => 0) (fun _ => 0) 0 0 0 from
    ⟨Blk.new w [.slice none 0 0, .slice none 0 0, .string ⟨#[]⟩] WdT, World.ownsRow_nil _ _ _ 1, World.ownsRow_nil _ _ _ 1, fun i hi => absurd hi (Nat.not_lt_zero i), fun i hi => absurd hi (Nat.not_lt_zero i), fun i _ hi => absurd hi (Nat.not_lt_zero i), fun i _ hi => absurd hi (Nat.not_lt_zero i), Nat.le_refl _, (Below.refl _ w).alloc (Nat.le_refl _) _⟩)
  go_loopw [4] (fun i wr => ∃ (j : Nat) (mv hv : Value) (p hr : Nat → Nat), j ≤ k ∧ i = .int .i64 j ∧ Mm w wr w.heap.size w.heap.size mv hv mv hv p hr j j j) (fun i _ => k - (intOf i).toNat)
  case atStart => exact ⟨0, _, _, _, _, Nat.zero_le _, rfl, HN.out⟩
  case round =>
    clear HN
    obtain ⟨j, mv, hv, p, hr, hj, rfl, HX⟩ := hrel
    have H6 := hid HX
    clear HX
    by_cases hlt : j < k
    · have u0 : ((j : Int) < k) = True := eq_true (by omega)
      have u1 : decide ((j : Int) < k) = true := decide_eq_true (by omega)
      have u2 : IntKind.i64.wrap ((j : Int) + 1) = ((j + 1 : Nat) : Int) := by have := H8.out; rw [IntKind.wrap_i64]; omega
      have u3 : (j < k) = True := eq_true hlt
      have HJ := hid (show j ≤ 100 by have := H8.out; omega)
      go_wp2_with fail
      refine region_textC (by kernel_rfl) (by kernel_rfl) (N5 w w.heap.size w.heap.size j mv hv hv p hr) ⟨H6.out.bl.size, fun _ => H6.out.later (Below.refl _ _).drew, fun e => absurd e (by decide), fun e => absurd e (by decide), fun e => absurd e (by decide), fun e => absurd e (by decide)⟩ ?_
      iterate 4 refine c_pure rfl (.pointer (some ⟨w.heap.size, 0, none⟩)) (fun _ => rfl) (fun b γ W h => h.up _ (by decide) (by decide) (by decide) (by decide)) (fun b γ W _ h _ => by go_simp) ?_
      refine c_run rfl mv (fun _ => rfl) (fun b γ W hcl h hb _ => ⟨W, ?_, h.up _ (by decide) (by decide) (by decide) (by decide)⟩) ?_
      · have c0 : W.cell? ⟨w.heap.size, 0, none⟩ = some mv := (h.top (closed_not hcl 9 (by kernel_rfl) hb)).cell 0
        go_simp
      refine c_callN rfl (f := 21) #[] (fun n => .pointer (some ⟨n, 0, none⟩)) (fun _ => rfl) (fun b γ W h _ => by go_simp) (fun b γ W hcl h hb _ => ?_) ?_
      · have h6 := closed_not (j := 6) hcl 9 (by kernel_rfl) hb
        have h7 := closed_not (j := 7) hcl 9 (by kernel_rfl) hb
        have h10 := closed_not (j := 10) hcl 9 (by kernel_rfl) hb
        refine (qnew_calls W).mono ?_
        rintro y w5 ⟨g, gr, rfl, q1, q2, q3, q4, q5⟩
        have e5 : Lib.up b 5 5 = true := up_at _ _
        have e6 : Lib.up b 5 6 = false := by rw [up_of_ne (by decide), h6]
        have e7 : Lib.up b 5 7 = false := by rw [up_of_ne (by decide), h7]
        have e10 : Lib.up b 5 10 = false := by rw [up_of_ne (by decide), h10]
        refine ⟨g, rfl, Nat.le_trans h.big q5.size, fun e => absurd (e5.symm.trans e) Bool.noConfusion, fun _ _ => ⟨gr, ?_⟩, fun e => absurd (e7.symm.trans e) Bool.noConfusion, fun e => absurd (e10.symm.trans e) Bool.noConfusion, fun e => absurd (e6.symm.trans e) Bool.noConfusion⟩
        rw [show Lib.upd γ 5 g 5 = g by simp [Lib.upd]]
        exact (h.s0 hb).more q5 h.big q1 q2 q3 q4
      refine c_any rfl (fun γ => .slice (some ⟨γ 6, 0, none⟩) 1 1) (fun γ γ' hg => by simp only; rw [hg 6 (.inl rfl)]) (fun _ => rfl) (fun b γ W hcl h hb hn => ⟨W.heap.size, W.alloc (.cells #[.pointer (some ⟨γ 5, 0, none⟩)] PTr), ?_, ?_⟩) ?_
      · rw [show Lib.upd γ 6 W.heap.size 6 = W.heap.size by simp [Lib.upd]]
        go_simp
      · have h5 : b 5 = true := hn 5 (by decide)
        have h7 := closed_not (j := 7) hcl 9 (by kernel_rfl) hb
        have h10 := closed_not (j := 10) hcl 9 (by kernel_rfl) hb
        have e5 : Lib.up b 6 5 = true := by rw [up_of_ne (by decide), h5]
        have e7 : Lib.up b 6 7 = false := by rw [up_of_ne (by decide), h7]
        have e10 : Lib.up b 6 10 = false := by rw [up_of_ne (by decide), h10]
        have g5 : Lib.upd γ 6 W.heap.size 5 = γ 5 := by simp [Lib.upd]
        have g6 : Lib.upd γ 6 W.heap.size 6 = W.heap.size := by simp [Lib.upd]
        obtain ⟨gr, q⟩ := h.s1 h5 h7
        refine ⟨by have := h.big; simp; omega, fun e => absurd (e5.symm.trans e) Bool.noConfusion, fun _ _ => ⟨gr, ?_⟩, fun e => absurd (e7.symm.trans e) Bool.noConfusion, fun e => absurd (e10.symm.trans e) Bool.noConfusion, fun _ _ => ?_⟩
        · rw [g5]; exact q.later ((Below.refl _ _).alloc (Nat.le_refl _) _)
        · rw [g5, g6]; exact Blk.new W [_] _
      simp only [Act.put, List.setIfInBounds_toArray, List.set_cons_zero, List.set_cons_succ]
      refine c_any rfl (fun γ => decV (j + 1) (γ 7)) (fun γ γ' hg => by simp only; rw [hg 7 (.inl rfl)]) (fun _ => rfl) (fun b γ W hcl h hb hn => ?_) ?_
      · have h6 : b 6 = true := hn 6 (by decide)
        have h5 : b 5 = true := closed_reach hcl 9 6 5 (by kernel_rfl) h6
        have h10 := closed_not (j := 10) hcl 9 (by kernel_rfl) hb
        have e5 : Lib.up b 7 5 = true := by rw [up_of_ne (by decide), h5]
        have e7 : Lib.up b 7 7 = true := up_at _ _
        have e10 : Lib.up b 7 10 = false := by rw [up_of_ne (by decide), h10]
        obtain ⟨gr, q⟩ := h.s1 h5 hb
        have hone := h.one h6 hb
        obtain ⟨v', w', r1, r2, r3⟩ := app_ptr (p := WireW.upd p j (γ 5)) q.row (g := γ 6) (by rw [upd_at]; exact hone) h.big HJ.out
        obtain ⟨m, rfl⟩ := decV_onto r2
        have g7 : Lib.upd γ 7 m 7 = m := by simp [Lib.upd]
        have g5 : Lib.upd γ 7 m 5 = γ 5 := by simp [Lib.upd]
        refine ⟨m, w', ?_, Nat.le_trans h.big r3.size, fun e => absurd (e5.symm.trans e) Bool.noConfusion, fun _ e => absurd (e7.symm.trans e) Bool.noConfusion, fun _ _ => ⟨gr, ?_⟩, fun e => absurd (e10.symm.trans e) Bool.noConfusion, fun _ e => absurd (e7.symm.trans e) Bool.noConfusion⟩
        · rw [g7]
          exact exec_app rfl rfl rfl rfl r1
        · rw [g5, g7]; exact q.app r3 r2
      iterate 2 refine c_pure rfl (.pointer (some ⟨w.heap.size, 0, none⟩)) (fun _ => rfl) (fun b γ W h => h.up _ (by decide) (by decide) (by decide) (by decide)) (fun b γ W _ h _ => by go_simp) ?_
      refine c_store rfl (fun _ => rfl) (fun b γ W hcl h hb hn => ⟨W.setCell ⟨w.heap.size, 0, none⟩ (decV (j + 1) (γ 7)), ?_, ?_⟩) ?_
      · have c0 : W.cell? ⟨w.heap.size, 0, none⟩ = some mv := (h.top hb).cell 0
        have f0 := (h.top hb).frozen 0
        rcases decV_cases (j + 1) (γ 7) with hq | ⟨g9, c9, hq⟩
        · rw [hq]; go_simp
        · rw [hq]; go_simp
      · have h7 : b 7 = true := hn 7 (by decide)
        have h5 : b 5 = true := closed_reach hcl 9 7 5 (by kernel_rfl) h7
        have e5 : Lib.up b 10 5 = true := by rw [up_of_ne (by decide), h5]
        have e7 : Lib.up b 10 7 = true := by rw [up_of_ne (by decide), h7]
        have e10 : Lib.up b 10 10 = true := up_at _ _
        obtain ⟨gr, q⟩ := h.s2 h7 hb
        exact ⟨by have := h.big; simpa [World.setCell] using this, fun e => absurd (e5.symm.trans e) Bool.noConfusion, fun _ e => absurd (e7.symm.trans e) Bool.noConfusion, fun _ e => absurd (e10.symm.trans e) Bool.noConfusion, fun _ => ⟨gr, q.put 0 _ _ _ rfl⟩, fun _ e => absurd (e7.symm.trans e) Bool.noConfusion⟩
      refine t_end ?_
      intro bq gq w1 hall hS
      simp only [Act.put, List.setIfInBounds_toArray, List.set_cons_zero, List.set_cons_succ]
      obtain ⟨gr, hq⟩ := hS.2.s3 (hall 10 (by decide))
      generalize decV (j + 1) (gq 7) = mv1 at hq ⊢
      generalize gq 5 = g5 at hq ⊢
      generalize hp1 : WireW.upd p j g5 = p1 at hq
      generalize hr1 : WireW.upd hr j gr = hr1 at hq
      have H7 := hid hq
      clear hq hS hall hp1 hr1
      have HB := hid (show w.heap.size ≤ w1.heap.size from H7.out.bl.size)
      have c1 : w1.cell? ⟨w.heap.size, 1, none⟩ = some hv := H7.out.top.cell 1
      have q7 := H7.out.later ((Below.refl _ w1).alloc (Nat.le_refl _) (.cells #[.slice none 0 0] EsT))
      obtain ⟨v', w', r1, r2, r3⟩ := app_nil q7.hrow (g := w1.heap.size) (Blk.new w1 [.slice none 0 0] EsT) (by have := HB.out; simp; omega) HJ.out
      have H9 := hid (q7.apph r3 r2)
      have c2 : w'.cell? ⟨w.heap.size, 1, none⟩ = some hv := H9.out.top.cell 1
      have f2 := H9.out.top.frozen 1
      have hv' : (v' = .slice none 0 0) ∨ ∃ g c, v' = .slice (some ⟨g, 0, none⟩) (j + 1) c := by
        obtain ⟨m, rfl⟩ := decV_onto r2
        exact decV_cases _ _
      have R1 := hid r1
      have H10 := hid (H9.out.put 1 v' mv1 v' rfl)
      clear q7 r1 r2 r3 H9
      rcases hv' with rfl | ⟨g9, c9, rfl⟩
      all_goals
        go_wp2_with (at_builtin; refine app_any rfl (.tmp 28) (.tmp 29) rfl rfl rfl rfl R1.out ?_)
        exact ⟨⟨j + 1, _, _, _, _, by omega, rfl, H10.out⟩, by simp [intOf]; omega⟩
    · obtain rfl : j = k := by omega
      go_wp2_with fail
      go_ret
      obtain ⟨a, ha0, ha⟩ := H6.out.done H1.out H8.out
      exact ⟨a, by rw [ha0]; rfl, ha, H6.out.bl⟩
end Go.Proofs.YtpkpnaedacefaaaGreat.WireQ

/- The document's wire: a bit time. -/
namespace Go.Proofs.YtpkpnaedacefaaaGreat.WireQ
set_option linter.unusedVariables false
set_option linter.unusedSimpArgs false
open Go Go.RowKit Go.Proofs.YtpkpnaedacefaaaGreat.Lib Go.Proofs.YtpkpnaedacefaaaGreat.Bits Go.Proofs.YtpkpnaedacefaaaGreat.BitsW Go.Proofs.YtpkpnaedacefaaaGreat.StuffW Go.Proofs.YtpkpnaedacefaaaGreat.Frame Go.Proofs.YtpkpnaedacefaaaGreat.FrameW Go.Proofs.YtpkpnaedacefaaaGreat.Code Go.Proofs.YtpkpnaedacefaaaGreat.CodeW Go.Proofs.YtpkpnaedacefaaaGreat.CodeL Go.Proofs.YtpkpnaedacefaaaGreat.Mac Go.Proofs.YtpkpnaedacefaaaGreat.MacW Go.Proofs.YtpkpnaedacefaaaGreat.MacL Go.Proofs.YtpkpnaedacefaaaGreat.RefW Go.Proofs.YtpkpnaedacefaaaGreat.MacR Go.Proofs.YtpkpnaedacefaaaGreat.WireN Go.Proofs.YtpkpnaedacefaaaGreat.WireW Go.Proofs.YtpkpnaedacefaaaGreat.PrintMore
attribute [local go_sem] max2_int min2_int max_two min_two
def oneTo (r : Rw) (j : Nat) : Bool := (List.range j).all fun i => (r.qs i).drive
theorem oneTo_succ (r : Rw) (j : Nat) : oneTo r (j + 1) = (oneTo r j && (r.qs j).drive) := by unfold oneTo; rw [List.range_succ, List.all_append]; simp
theorem Rw.mid_zero (r : Rw) (b : Bool) : r.mid b 0 = r := rfl
theorem Rw.mid_succ (r : Rw) (b : Bool) (j : Nat) : r.mid b (j + 1) = { r.mid b j with qs := WireW.upd (r.mid b j).qs j ((r.qs j).sample b).1, hs := WireW.upd (r.mid b j).hs j (keep (r.hs j ++ ((r.qs j).sample b).2)) } := by
  unfold Rw.mid
  simp only [Rw.mk.injEq, true_and, and_true]
  refine ⟨?_, ?_⟩
  all_goals
    funext i
    unfold WireW.upd
    by_cases h : i = j
    · subst h; rw [if_pos (by omega), if_pos rfl]
    · rw [if_neg h]
      by_cases hl : i < j
      · exact (if_pos (by omega)).trans (if_pos hl).symm
      · exact (if_neg (by omega)).trans (if_neg hl).symm
theorem Rw.mid_qs (r : Rw) (b : Bool) (j : Nat) : (r.mid b j).qs j = r.qs j := if_neg (Nat.lt_irrefl j)
theorem Rw.mid_hs (r : Rw) (b : Bool) (j : Nat) : (r.mid b j).hs j = r.hs j := if_neg (Nat.lt_irrefl j)
theorem Rw.evsTo_succ (r : Rw) (b : Bool) (j : Nat) : r.evsTo b (j + 1) = r.evsTo b j ++ ((r.qs j).sample b).2 := by unfold Rw.evsTo; rw [List.range_succ, List.flatMap_append]; simp
theorem Rw.evsTo_len (r : Rw) (b : Bool) (j : Nat) : (r.evsTo b j).length ≤ 10 * j := by
  induction j with
  | zero => simp [Rw.evsTo]
  | succ j ih => rw [Rw.evsTo_succ, List.length_append]; have := sample_len (r.qs j) b; omega
/-- A row of events that is a part of it is what one of them heard. -/
theorem RM.own_ev {W : World} {D b : Nat} {a : Qa} {r : Rw} {v : Value} {L : List Ev} (h : RM W D a r) (hv : Evs W b v L) {k : Nat} (hk : v.ownBlock = some k) (ho : a.own r.n k) : ∃ i, i < r.n ∧ (a.es i).ownBlock = some k := by
  have t := ty_owns hv hk
  rcases ho with rfl | rfl | rfl | ⟨i, hi, rfl⟩ | ⟨i, hi, rfl⟩ | h
  · exact absurd rfl (t.ne (ty_blk h.top) (by decide))
  · exact absurd rfl (t.ne h.row.ty (by decide))
  · exact absurd rfl (t.ne h.hrow.ty (by decide))
  · exact absurd rfl (t.ne (ty_blk (h.node i hi)) (by decide))
  · exact absurd rfl (t.ne (ty_blk (h.rd i hi)) (by decide))
  · exact h
/-- The second loop, j nodes done. -/
structure Rp (W0 : World) (D : Nat) (a : Qa) (r : Rw) (b : Bool) (j : Nat) (a' : Qa) (o : Value) (wr : World) : Prop where
  rm : RM wr D a' (r.mid b j)
  gw : a'.gw = a.gw
  out : Evs wr W0.heap.size o (r.evsTo b j)
  ne : ∀ i k, i < r.n → o.ownBlock = some k → (a'.es i).ownBlock ≠ some k
  kp : Kp (a.own r.n) W0 wr
  fp : ∀ k, a'.own r.n k → a.own r.n k ∨ W0.heap.size ≤ k
  short : ∀ i, i < r.n → ((r.mid b j).hs i).length ≤ 100
  big : D ≤ W0.heap.size
/-- Its round, node j having sampled. -/
structure Rz (W0 : World) (D : Nat) (a : Qa) (r : Rw) (b : Bool) (j : Nat) (a' : Qa) (o : Value) (O : List Ev) (hs : Nat → List Ev) (wr : World) : Prop where
  rm : RM wr D a' { r.mid b j with qs := WireW.upd (r.mid b j).qs j ((r.qs j).sample b).1, hs := hs }
  gw : a'.gw = a.gw
  out : Evs wr W0.heap.size o O
  ne : ∀ i k, i < r.n → o.ownBlock = some k → (a'.es i).ownBlock ≠ some k
  kp : Kp (a.own r.n) W0 wr
  fp : ∀ k, a'.own r.n k → a.own r.n k ∨ W0.heap.size ≤ k
  big : D ≤ W0.heap.size
section
variable {W0 wr w2 w3 : World} {D b' j : Nat} {a a' : Qa} {r : Rw} {b : Bool} {o o' v v' : Value} {L O O' : List Ev} {hs : Nat → List Ev}
theorem Rp.sampled (h : Rp W0 D a r b j a' o wr) (hj : j < r.n) {hr' : Nat} (q : QP wr w2 (a'.p j) (a'.hr j) hr' ((r.qs j).sample b).1) (hv : Evs w2 wr.heap.size v L) :
    Rz W0 D a r b j { a' with hr := WireW.upd a'.hr j hr' } o (r.evsTo b j) (r.mid b j).hs w2 ∧ (∀ k, v.ownBlock = some k → o.ownBlock ≠ some k) ∧ ∀ i k, i < r.n → v.ownBlock = some k → (a'.es i).ownBlock ≠ some k := by
  have kk := Kp.of_g2 q.g2
  have hD : D ≤ wr.heap.size := Nat.le_trans h.big h.kp.size
  have b1 := ty_blk (h.rm.node j hj)
  have b2 := ty_blk (h.rm.rd j hj)
  refine ⟨⟨h.rm.node_at (i := j) hj hD q, h.gw, owns_kp h.out kk (fun i e e2 => ?_), h.ne, h.kp.trans kk (fun i e => ?_), fun k e => ?_, h.big⟩, fun k e e2 => ?_, fun i k hi e e2 => ?_⟩
  · rcases e2 with e2 | e2
    · exact (ty_owns h.out e).ne b1 (by decide) e2
    · exact (ty_owns h.out e).ne b2 (by decide) e2
  · rcases e with e | e
    · exact h.fp i (.inr (.inr (.inr (.inl ⟨j, hj, e⟩))))
    · exact h.fp i (.inr (.inr (.inr (.inr (.inl ⟨j, hj, e⟩)))))
  · rcases own_hr (n := r.n) hj q.new e with e | e
    · exact h.fp k e
    · exact .inr (Nat.le_trans h.kp.size e)
  · have := (owns_lt hv e).1
    have := (owns_lt h.out e2).2
    omega
  · have := (owns_lt hv e).1
    have := ((h.rm.heard i hi).lt e2).2
    omega
theorem Rz.told (h : Rz W0 D a r b j a' o O hs wr) (hr : Evs wr b' v L) (rne : ∀ k, v.ownBlock = some k → o.ownBlock ≠ some k) (r2 : Evs w2 W0.heap.size o' O') (r3 : wr.grownBy w2 o.ownBlock) (r4 : o'.ownBlock = o.ownBlock ∨ o'.ownBlock = some wr.heap.size) :
    Rz W0 D a r b j a' o' O' hs w2 ∧ Evs w2 b' v L := by
  have kk := Kp.of_grown r3
  refine ⟨⟨h.rm.kp kk (fun k hk e => ?_), h.gw, r2, fun i k hi e e2 => ?_, h.kp.trans kk (fun i e => .inr (owns_lt h.out e).1), h.fp, h.big⟩, owns_kp hr kk (fun i e e2 => rne i e e2)⟩
  · obtain ⟨i, hi, e2⟩ := h.rm.own_ev h.out e hk
    exact h.ne i k hi e e2
  · rcases r4 with r4 | r4
    · exact h.ne i k hi (r4 ▸ e) e2
    · rw [r4] at e; injection e with e
      have := ((h.rm.heard i hi).lt e2).2
      omega
theorem Rz.drew (h : Rz W0 D a r b j a' o O hs wr) : Rz W0 D a r b j a' o O hs wr.drew :=
  ⟨h.rm.below (Below.refl _ _).drew, h.gw, owns_kp (F := fun _ => False) h.out (Kp.refl _ _).drew (fun _ _ e => e), h.ne, h.kp.drew, h.fp, h.big⟩
theorem Rz.heard (h : Rz W0 D a r b j a' o O hs wr) (hj : j < r.n) (k : Kp (fun q => (a'.es j).ownBlock = some q) wr w2) (r4 : v'.ownBlock = (a'.es j).ownBlock ∨ ∀ q, v'.ownBlock = some q → wr.heap.size ≤ q) (hL : Hrow w2 D v' L) (hl : L.length ≤ 200) :
    Rz W0 D a r b j { a' with es := WireW.upd a'.es j v' } o O (WireW.upd hs j L) (w2.setCell ⟨a'.gh, j, none⟩ v') := by
  have kk : Kp (fun q => (a'.es j).ownBlock = some q ∨ q = a'.gh) wr (w2.setCell ⟨a'.gh, j, none⟩ v') := (k.mono (fun q e => .inl e)).set _ _ (.inl (.inr rfl))
  refine ⟨h.rm.heard_at (i := j) hj k r4 hL hl, h.gw, owns_kp h.out kk (fun i e e2 => ?_), fun i q hi e e2 => ?_, h.kp.trans kk (fun i e => ?_), fun q e => ?_, h.big⟩
  · rcases e2 with e2 | e2
    · exact h.ne j i hj e e2
    · exact (ty_owns h.out e).ne h.rm.hrow.ty (by decide) e2
  · change (WireW.upd a'.es j v' i).ownBlock = some q at e2
    by_cases hij : i = j
    · subst hij
      rw [upd_at] at e2
      rcases r4 with r4 | r4
      · exact h.ne i q hi e (r4 ▸ e2)
      · have := r4 q e2
        have := (owns_lt h.out e).2
        omega
    · rw [upd_ne _ _ hij] at e2
      exact h.ne i q hi e e2
  · rcases e with e | e
    · exact h.fp i (.inr (.inr (.inr (.inr (.inr ⟨j, hj, e⟩)))))
    · exact h.fp i (.inr (.inr (.inl e)))
  · rcases own_es (n := r.n) hj r4 e with e | e
    · exact h.fp q e
    · exact .inr (Nat.le_trans h.kp.size e)
theorem Rz.done (h : Rz W0 D a r b j a' o (r.evsTo b j ++ ((r.qs j).sample b).2) hs wr) (hh : hs = WireW.upd (r.mid b j).hs j (keep (r.hs j ++ ((r.qs j).sample b).2))) (h0 : ∀ i, i < r.n → ((r.mid b j).hs i).length ≤ 100) : Rp W0 D a r b (j + 1) a' o wr := by
  subst hh
  refine ⟨by rw [Rw.mid_succ]; exact h.rm, h.gw, by rw [Rw.evsTo_succ]; exact h.out, h.ne, h.kp, h.fp, fun i hi => ?_, h.big⟩
  rw [Rw.mid_succ]
  show List.length (WireW.upd (r.mid b j).hs j (keep (r.hs j ++ ((r.qs j).sample b).2)) i) ≤ 100
  by_cases hij : i = j
  · subst hij; rw [upd_at]; exact keep_len _
  · rw [upd_ne _ _ hij]; exact h0 i hi
end
/-- The region that appends to what one of them heard. -/
structure C16 (w5 w6 : World) (gh j : Nat) (v6 : Value) (b : Nat → Bool) (W : World) : Prop where
  fst : b 13 = false → W = w5
  snd : b 13 = true → b 15 = false → W = w6
  thd : b 15 = true → W = w6.setCell ⟨gh, j, none⟩ v6
theorem C16.up {w5 w6 : World} {gh j : Nat} {v6 : Value} {b : Nat → Bool} {W : World} (h : C16 w5 w6 gh j v6 b W) (i : Nat) (h1 : i ≠ 13) (h2 : i ≠ 15) : C16 w5 w6 gh j v6 (up b i) W := by
  have e1 : Lib.up b i 13 = b 13 := up_of_ne (fun e => h1 e.symm)
  have e2 : Lib.up b i 15 = b 15 := up_of_ne (fun e => h2 e.symm)
  exact ⟨by rw [e1]; exact h.fst, by rw [e1, e2]; exact h.snd, by rw [e2]; exact h.thd⟩
theorem C16.cell {w5 w6 : World} {gh j : Nat} {v6 : Value} {b : Nat → Bool} {W : World} (h : C16 w5 w6 gh j v6 b W) (h15 : b 15 = false) {x : Addr} {y : Option Value} (e1 : w5.cell? x = y) (e2 : w6.cell? x = y) : W.cell? x = y := by
  cases e : b 13
  · rw [h.fst e]; exact e1
  · rw [h.snd e h15]; exact e2
/-- The region that cuts what one of them heard. -/
structure C18 (w7 w8 : World) (b : Nat → Bool) (W : World) : Prop where
  fst : b 23 = false → W = w7
  snd : b 23 = true → W = w8
theorem C18.up {w7 w8 : World} {b : Nat → Bool} {W : World} (h : C18 w7 w8 b W) (i : Nat) (h1 : i ≠ 23) : C18 w7 w8 (up b i) W := by
  have e1 : Lib.up b i 23 = b 23 := up_of_ne (fun e => h1 e.symm)
  exact ⟨by rw [e1]; exact h.fst, by rw [e1]; exact h.snd⟩
/-- The region that lays down the bit. -/
structure C9 (W0 W2 : World) (D : Nat) (a : Qa) (r : Rw) (bt : Bool) (b : Nat → Bool) (γ : Nat → Nat) (W : World) : Prop where
  rm : b 11 = false → RM W D a r
  kp : Kp (a.own r.n) W0 W
  one : b 6 = true → b 11 = false → Blk W (γ 6) 5 [.int .u8 ((sg bt).toNat : Int)]
  fin : b 11 = true → RM W D a { r with tr := r.tr ++ [sg bt] }
theorem C9.up {W0 W2 : World} {D : Nat} {a : Qa} {r : Rw} {bt : Bool} {b : Nat → Bool} {γ : Nat → Nat} {W : World} (h : C9 W0 W2 D a r bt b γ W) (i : Nat) (h1 : i ≠ 6) (h2 : i ≠ 11) : C9 W0 W2 D a r bt (up b i) γ W := by
  have e1 : Lib.up b i 6 = b 6 := up_of_ne (fun e => h1 e.symm)
  have e2 : Lib.up b i 11 = b 11 := up_of_ne (fun e => h2 e.symm)
  exact ⟨by rw [e2]; exact h.rm, h.kp, by rw [e1, e2]; exact h.one, by rw [e2]; exact h.fin⟩
end Go.Proofs.YtpkpnaedacefaaaGreat.WireQ

/- The document's wire: a bit time, walked. -/
namespace Go.Proofs.YtpkpnaedacefaaaGreat.WireQ
set_option linter.unusedVariables false
set_option linter.unusedSimpArgs false
open Go Go.RowKit Go.Proofs.YtpkpnaedacefaaaGreat.Lib Go.Proofs.YtpkpnaedacefaaaGreat.Bits Go.Proofs.YtpkpnaedacefaaaGreat.BitsW Go.Proofs.YtpkpnaedacefaaaGreat.StuffW Go.Proofs.YtpkpnaedacefaaaGreat.Frame Go.Proofs.YtpkpnaedacefaaaGreat.FrameW Go.Proofs.YtpkpnaedacefaaaGreat.Code Go.Proofs.YtpkpnaedacefaaaGreat.CodeW Go.Proofs.YtpkpnaedacefaaaGreat.CodeL Go.Proofs.YtpkpnaedacefaaaGreat.Mac Go.Proofs.YtpkpnaedacefaaaGreat.MacW Go.Proofs.YtpkpnaedacefaaaGreat.MacL Go.Proofs.YtpkpnaedacefaaaGreat.RefW Go.Proofs.YtpkpnaedacefaaaGreat.MacR Go.Proofs.YtpkpnaedacefaaaGreat.WireN Go.Proofs.YtpkpnaedacefaaaGreat.WireW Go.Proofs.YtpkpnaedacefaaaGreat.PrintMore
attribute [local go_sem] max2_int min2_int max_two min_two
theorem drive_of {W : World} {D : Nat} {a : Qa} {r : Rw} (h : RM W D a r) (hS : ∀ i, i < r.n → QS (r.qs i)) {j : Nat} (hj : j < r.n) :
    Calls Tryz.prog 29 #[.pointer (some ⟨a.p j, 0, none⟩)] W fun e w' => e = .returned (.int .u8 ((sg (r.qs j).drive).toNat : Int)) ∧ Below W.heap.size W w' := by
  have q := hS j hj
  exact qdrive_calls (a.p j) (a.hr j) (r.qs j) W (h.node j hj) (h.rd j hj) (by have := q.qb.plain; omega) (by have := q.qb.want; omega) q.at_
theorem h_slice {W : World} {b : Nat} {v : Value} {L : List Ev} (h : Hrow W b v L) : ∃ p cap, v = .slice p L.length cap := by
  rcases h with ⟨rfl, rfl⟩ | ⟨g, o, cap, rfl, _⟩
  · exact ⟨none, 0, rfl⟩
  · exact ⟨_, _, rfl⟩
theorem by_app (l m : List UInt8) : By l ++ By m = By (l ++ m) := by
  apply ByteArray.ext
  simp [By]
theorem by_size (l : List UInt8) : (By l).size = l.length := by simp [By, ByteArray.size]
set_option maxRecDepth 100000 in
set_option maxHeartbeats 6400000 in
theorem rstep_calls {W : World} {D : Nat} {a : Qa} {r : Rw} (h : RM W D a r) (flip : Bool) (hD : D ≤ W.heap.size) (hS : ∀ i, i < r.n → QS (r.qs i)) (hsh : ∀ i, i < r.n → (r.hs i).length ≤ 100) (ht : r.tr.length ≤ 8000) : Calls Tryz.prog 12 #[.pointer (some ⟨a.gw, 0, none⟩), .bool flip] W fun e w' =>
    ∃ v a' o, e = .returned v ∧ v = o ∧ Rp W D a { r with tr := r.tr ++ [sg (r.bit flip)] } (r.bit flip) r.n a' o w' := by
  have H := hid h
  have HS := hid hS
  have HSH := hid hsh
  have HN8 := hid h.most
  have HD := hid hD
  have HT := hid ht
  clear ht
  obtain ⟨bt, hbt⟩ : ∃ bt, bt = r.bit flip := ⟨_, rfl⟩
  rw [← hbt]
  have HBT := hid (show bt = (oneTo r r.n != flip) from hbt)
  clear h hS hsh hD hbt
  go_enter Tryz.func12, Tryz.ntmps12
  go_wp2_with fail
  go_loopw [6, 5] (fun i v wr => ∃ j : Nat, j ≤ r.n ∧ i = .int .i64 j ∧ v = .bool (oneTo r j) ∧ Below W.heap.size W wr) (fun i _ _ => r.n - (intOf i).toNat)
  case atStart => exact ⟨0, Nat.zero_le _, rfl, rfl, Below.refl _ _⟩
  case round =>
    obtain ⟨j, hj, rfl, rfl, HX⟩ := hrel
    have H6 := hid HX
    clear HX
    have H7 := hid (H.out.below H6.out)
    have x0 : wr.cell? ⟨a.gw, 0, none⟩ = some (.slice (some ⟨a.gm, 0, none⟩) r.n a.cm) := H7.out.top.cell 0
    have HL := hid (oneTo_succ r j)
    by_cases hlt : j < r.n
    · have u0 : ((j : Int) < r.n) = True := eq_true (by omega)
      have u1 : decide ((j : Int) < r.n) = true := decide_eq_true (by omega)
      have u2 : IntKind.i64.wrap ((j : Int) + 1) = ((j + 1 : Nat) : Int) := by have := HN8.out; rw [IntKind.wrap_i64]; omega
      have u3 : (j < r.n) = True := eq_true hlt
      have y0 : wr.cell? ⟨a.gm, j, none⟩ = some (.pointer (some ⟨a.p j, 0, none⟩)) := H7.out.row.cell hlt
      cases ho : oneTo r j
      · rw [ho] at HL
        go_wp2_with fail
        exact ⟨⟨j + 1, by omega, rfl, by rw [HL.out]; rfl, H6.out⟩, by simp [intOf]; omega⟩
      · rw [ho] at HL
        go_wp2_with fail
        with_reducible refine (drive_of H7.out HS.out hlt).mono ?_
        rintro y w8 ⟨rfl, h8⟩
        have H8 := hid (H6.out.trans (h8.mono H6.out.size))
        clear h8
        cases hd : (r.qs j).drive
        all_goals
          rw [hd] at HL
          go_wp2_with fail
          exact ⟨⟨j + 1, by omega, rfl, by rw [HL.out]; rfl, H8.out⟩, by simp [intOf]; omega⟩
    · obtain rfl : j = r.n := by omega
      clear HL
      have hb := HBT.out
      obtain ⟨o1, ho⟩ : ∃ o1, o1 = oneTo r r.n := ⟨_, rfl⟩
      rw [← ho] at hb ⊢
      clear ho
      have HB2 := hid hb
      clear hb
      go_upto_if 34 with fail
      go_cut [7] (fun s7 wc => s7 = .int .u8 ((sg bt).toNat : Int) ∧ wc = wr)
      case first =>
        have hb := HB2.out
        cases o1 <;> cases flip <;> (subst hb; go_wp2_with fail; go_meet; case rel => exact ⟨rfl, rfl⟩)
      case rest =>
        clear HB2
        obtain ⟨rfl, rfl⟩ := hcut
        clear x0
        go_wp2_with fail
        refine region_textC (by kernel_rfl) (by kernel_rfl) (C9 W wc D a r bt) ⟨fun _ => H7.out.below (Below.refl _ _).drew, (Kp.of_below H6.out _).drew, fun e => absurd e (by decide), fun e => absurd e (by decide)⟩ ?_
        iterate 3 refine c_pure rfl (.pointer (some ⟨a.gw, 0, none⟩)) (fun _ => rfl) (fun b γ W h => h.up _ (by decide) (by decide)) (fun b γ W _ h _ => by go_simp) ?_
        refine c_pure rfl (.pointer (some ⟨a.gw, 2, none⟩)) (fun _ => rfl) (fun b γ W h => h.up _ (by decide) (by decide)) (fun b γ W _ h _ => by go_simp) ?_
        refine c_run rfl (.string (By r.tr)) (fun _ => rfl) (fun b γ W hcl h hb _ => ⟨W, ?_, h.up _ (by decide) (by decide)⟩) ?_
        · have c0 : W.cell? ⟨a.gw, 2, none⟩ = some (.string (By r.tr)) := (h.rm (closed_not hcl 12 (by kernel_rfl) hb)).top.cell 2
          go_simp
        refine c_pure rfl (.int .u8 ((sg bt).toNat : Int)) (fun _ => rfl) (fun b γ W h => h.up _ (by decide) (by decide)) (fun b γ W _ h _ => by go_simp) ?_
        refine c_any rfl (fun γ => .slice (some ⟨γ 6, 0, none⟩) 1 1) (fun γ γ' hg => by simp only; rw [hg 6 (.inl rfl)]) (fun _ => rfl) (fun b γ W hcl h hb hn => ⟨W.heap.size, W.alloc (.cells #[.int .u8 ((sg bt).toNat : Int)] 5), ?_, ?_⟩) ?_
        · rw [show Lib.upd γ 6 W.heap.size 6 = W.heap.size by simp [Lib.upd]]
          go_simp
        · have h11 := closed_not (j := 11) hcl 12 (by kernel_rfl) hb
          have e11 : Lib.up b 6 11 = false := by rw [up_of_ne (by decide), h11]
          have g6 : Lib.upd γ 6 W.heap.size 6 = W.heap.size := by simp [Lib.upd]
          refine ⟨fun _ => (h.rm h11).below ((Below.refl _ _).alloc (Nat.le_refl _) _), h.kp.alloc _, fun _ _ => ?_, fun e => absurd (e11.symm.trans e) Bool.noConfusion⟩
          rw [g6]; exact Blk.new W [_] _
        refine c_run rfl (.string (By [sg bt])) (fun _ => rfl) (fun b γ W hcl h hb hn => ⟨W, ?_, h.up _ (by decide) (by decide)⟩) ?_
        · have h11 := closed_not (j := 11) hcl 12 (by kernel_rfl) hb
          have ho : OwnB W 0 5 (.slice (some ⟨γ 6, 0, none⟩) 1 1) [sg bt] := (h.one (hn 6 (by decide)) h11).own (Nat.zero_le _) rfl (by unfold maxLen; omega)
          have hr := run_conv_own (P := Tryz.prog) (w := W) 70 9 5 Tryz.underlying70 Tryz.underlying5 Tryz.underlying9 _ _ _ _ ho
          unfold execOp
          simp only [Sem.run_bind]
          erw [hr]
          rfl
        refine c_pure rfl (.string (By r.tr ++ By [sg bt])) (fun _ => rfl) (fun b γ W h => h.up _ (by decide) (by decide)) (fun b γ W _ h _ => by
          have hz : (By r.tr).size + (By [sg bt]).size ≤ 9223372036854775807 := by rw [by_size, by_size]; have := HT.out; simp; omega
          go_simp) ?_
        refine c_pure rfl (.pointer (some ⟨a.gw, 0, none⟩)) (fun _ => rfl) (fun b γ W h => h.up _ (by decide) (by decide)) (fun b γ W _ h _ => by go_simp) ?_
        refine c_pure rfl (.pointer (some ⟨a.gw, 2, none⟩)) (fun _ => rfl) (fun b γ W h => h.up _ (by decide) (by decide)) (fun b γ W _ h _ => by go_simp) ?_
        refine c_store rfl (fun _ => rfl) (fun b γ W hcl h hb hn => ⟨W.setCell ⟨a.gw, 2, none⟩ (.string (By r.tr ++ By [sg bt])), ?_, ?_⟩) ?_
        · have c0 : W.cell? ⟨a.gw, 2, none⟩ = some (.string (By r.tr)) := (h.rm hb).top.cell 2
          have f0 := (h.rm hb).top.frozen 2
          go_simp
        · have e11 : Lib.up b 11 11 = true := up_at _ _
          refine ⟨fun e => absurd (e11.symm.trans e) Bool.noConfusion, h.kp.set _ _ (.inl (.inl rfl)), fun _ e => absurd (e11.symm.trans e) Bool.noConfusion, fun _ => ?_⟩
          rw [by_app]
          exact (h.rm hb).trace_at _
        refine t_end ?_
        intro bq gq w2 hall hS
        simp only [Act.put, List.setIfInBounds_toArray, List.set_cons_zero, List.set_cons_succ]
        have hm := hS.2.fin (hall 11 (by decide))
        obtain ⟨r1, hr1⟩ : ∃ r1 : Rw, r1 = { r with tr := r.tr ++ [sg bt] } := ⟨_, rfl⟩
        rw [← hr1] at hm
        have HR1 := hid hr1
        have HP := hid (show Rp W D a r1 bt 0 a (.slice none 0 0) w2 from ⟨hm, rfl, evs_nil _ _, fun _ _ _ e => by simp [Value.ownBlock] at e, by rw [hr1]; exact hS.2.kp, fun k e => .inl e, by rw [hr1]; exact HSH.out, HD.out⟩)
        have HN1 := hid (show r1.n ≤ 8 by rw [hr1]; exact HN8.out)
        have HQ1 := hid (show ∀ i, i < r1.n → QS (r1.qs i) by rw [hr1]; exact HS.out)
        clear hm hr1 hS hall H6 H7 hlt hj
        go_wp2_with fail
        go_loopw [9, 8, 10] (fun i o _ wr => ∃ (j : Nat) (a' : Qa), j ≤ r1.n ∧ i = .int .i64 j ∧ Rp W D a r1 bt j a' o wr) (fun i _ _ _ => r1.n - (intOf i).toNat)
        case atStart => exact ⟨0, a, Nat.zero_le _, rfl, HP.out⟩
        case round =>
          clear HP
          obtain ⟨j, a1, hj, rfl, HX⟩ := hrel
          have H6 := hid HX
          clear HX
          have x0 : wr.cell? ⟨a.gw, 0, none⟩ = some (.slice (some ⟨a1.gm, 0, none⟩) r1.n a1.cm) := by rw [← H6.out.gw]; exact H6.out.rm.top.cell 0
          by_cases hlt : j < r1.n
          · have u0 : ((j : Int) < r1.n) = True := eq_true (by omega)
            have u1 : decide ((j : Int) < r1.n) = true := decide_eq_true (by omega)
            have u2 : IntKind.i64.wrap ((j : Int) + 1) = ((j + 1 : Nat) : Int) := by have := HN1.out; rw [IntKind.wrap_i64]; omega
            have u3 : (j < r1.n) = True := eq_true hlt
            have y0 : wr.cell? ⟨a1.gm, j, none⟩ = some (.pointer (some ⟨a1.p j, 0, none⟩)) := H6.out.rm.row.cell hlt
            have hnd := H6.out.rm.node j hlt
            have hrd := H6.out.rm.rd j hlt
            rw [Rw.mid_qs] at hnd hrd
            go_wp2_with fail
            with_reducible refine (qsample_calls (a1.p j) (a1.hr j) (r1.qs j) bt _ (sg_48b bt) wr hnd hrd (HQ1.out j hlt)).mono ?_
            rintro y w4 ⟨v, hr4, rfl, hq4, hev⟩
            obtain ⟨hz, hrne, hrne2⟩ := H6.out.sampled hlt hq4 hev
            have HL3 := hid (sample_len (r1.qs j) bt)
            have HEL := hid (r1.evsTo_len bt j)
            obtain ⟨o', w5, s1, s2, s3, s4⟩ := run_app2 hz.out hev hz.kp.size (by have := HEL.out; have := HN1.out; omega) (by have := HL3.out; omega)
            obtain ⟨hz5, he5⟩ := hz.told hev hrne s2 s3 s4
            obtain ⟨a2, ha2⟩ : ∃ a2 : Qa, a2 = { a1 with hr := WireW.upd a1.hr j hr4 } := ⟨_, rfl⟩
            rw [← ha2] at hz5
            have HE2 := hid (show ∀ i k, i < r1.n → v.ownBlock = some k → (a2.es i).ownBlock ≠ some k by rw [ha2]; exact hrne2)
            clear ha2
            have hz6 := hz5.drew
            have hh6 : Hrow w5.drew D (a2.es j) ((r1.mid bt j).hs j) := hz6.rm.heard j hlt
            have hl6 : ((r1.mid bt j).hs j).length ≤ 100 := H6.out.short j hlt
            obtain ⟨v6, w6, q1, q2, q3, q4⟩ := run_app_h hh6 (owns_kp (F := fun _ => False) he5 (Kp.refl _ _).drew (fun _ _ e => e)) (Nat.le_trans hz6.big hz6.kp.size) (by have := HL3.out; omega)
            rw [Rw.mid_hs] at q2
            obtain ⟨L7, hL7⟩ : ∃ L7, L7 = r1.hs j ++ ((r1.qs j).sample bt).2 := ⟨_, rfl⟩
            rw [← hL7] at q2
            have hl7 : L7.length ≤ 110 := by rw [hL7, List.length_append]; rw [Rw.mid_hs] at hl6; have := HL3.out; omega
            have HZ7 := hid (hz6.heard hlt q3 q4 q2 (by omega))
            have x5 : w5.cell? ⟨a.gw, 1, none⟩ = some (.slice (some ⟨a2.gh, 0, none⟩) r1.n a2.ch) := by rw [← hz5.gw]; exact hz5.rm.top.cell 1
            have kne : ∀ {g : Nat} {T : TypeId}, Ty w5.drew g T → T ≠ EvT → ¬ (a2.es j).ownBlock = some g := fun t h1 e => (t.ne (ty_h hh6 e) h1) rfl
            have x6 : w6.cell? ⟨a.gw, 1, none⟩ = some (.slice (some ⟨a2.gh, 0, none⟩) r1.n a2.ch) := by rw [← hz5.gw]; exact (blk_kp hz6.rm.top q3 (kne (ty_blk hz6.rm.top) (by decide))).cell 1
            have hb6 := hz6.rm.hrow.kp q3 (kne hz6.rm.hrow.ty (by decide))
            have y5 : w5.cell? ⟨a2.gh, j, none⟩ = some (a2.es j) := hz5.rm.hrow.cell hlt
            have y6 : w6.cell? ⟨a2.gh, j, none⟩ = some (a2.es j) := hb6.cell hlt
            have f6 := hb6.frozen j
            obtain ⟨pe, ce, hpe⟩ := h_slice hh6
            obtain ⟨p6, cap6, hv6⟩ := h_slice q2
            have HN7 := hid hl7
            have HL7 := hid hL7
            have HQ2 := hid q2
            have S1 := hid s1
            have Q1 := hid q1
            have HZ6 := hid hz6
            clear hnd hrd hz hrne hrne2 s1 s2 s3 s4 hz5 he5 hh6 hl6 q1 q2 q3 q4 kne hb6 hz6 hl7 hL7 x0 y0 hq4 hev
            go_wp2_with (at_builtin; refine app_evs rfl (.tmp 64) (.tmp 65) rfl rfl rfl rfl S1.out ?_)
            refine region_textC (by kernel_rfl) (by kernel_rfl) (fun b _ W => C16 w5.drew w6 a2.gh j v6 b W) ⟨fun _ => rfl, fun e => absurd e (by decide), fun e => absurd e (by decide)⟩ ?_
            iterate 2 refine c_pure rfl (.pointer (some ⟨a.gw, 0, none⟩)) (fun _ => rfl) (fun b γ W h => h.up _ (by decide) (by decide)) (fun b γ W _ h _ => by go_simp) ?_
            refine c_pure rfl (.pointer (some ⟨a.gw, 1, none⟩)) (fun _ => rfl) (fun b γ W h => h.up _ (by decide) (by decide)) (fun b γ W _ h _ => by go_simp) ?_
            refine c_run rfl (.slice (some ⟨a2.gh, 0, none⟩) r1.n a2.ch) (fun _ => rfl) (fun b γ W hcl h hb _ => ⟨W, ?_, h.up _ (by decide) (by decide)⟩) ?_
            · have c0 := h.cell (closed_not hcl 16 (by kernel_rfl) hb) x5 x6
              clear x5 x6 y5 y6
              go_simp
            refine c_pure rfl (.int .i64 j) (fun _ => rfl) (fun b γ W h => h.up _ (by decide) (by decide)) (fun b γ W _ h _ => by go_simp) ?_
            iterate 2 refine c_pure rfl (.pointer (some ⟨a.gw, 0, none⟩)) (fun _ => rfl) (fun b γ W h => h.up _ (by decide) (by decide)) (fun b γ W _ h _ => by go_simp) ?_
            refine c_pure rfl (.pointer (some ⟨a.gw, 1, none⟩)) (fun _ => rfl) (fun b γ W h => h.up _ (by decide) (by decide)) (fun b γ W _ h _ => by go_simp) ?_
            refine c_run rfl (.slice (some ⟨a2.gh, 0, none⟩) r1.n a2.ch) (fun _ => rfl) (fun b γ W hcl h hb _ => ⟨W, ?_, h.up _ (by decide) (by decide)⟩) ?_
            · have c0 := h.cell (closed_not hcl 16 (by kernel_rfl) hb) x5 x6
              clear x5 x6 y5 y6
              go_simp
            refine c_pure rfl (.int .i64 j) (fun _ => rfl) (fun b γ W h => h.up _ (by decide) (by decide)) (fun b γ W _ h _ => by go_simp) ?_
            refine c_pure rfl (.pointer (some ⟨a2.gh, j, none⟩)) (fun _ => rfl) (fun b γ W h => h.up _ (by decide) (by decide)) (fun b γ W _ h _ => by go_simp) ?_
            refine c_run rfl (a2.es j) (fun _ => rfl) (fun b γ W hcl h hb _ => ⟨W, ?_, h.up _ (by decide) (by decide)⟩) ?_
            · have c0 := h.cell (closed_not hcl 16 (by kernel_rfl) hb) y5 y6
              clear x5 x6 y5 y6
              rw [hpe] at c0 ⊢
              go_simp
            refine c_pure rfl v (fun _ => rfl) (fun b γ W h => h.up _ (by decide) (by decide)) (fun b γ W _ h _ => by go_simp) ?_
            simp only [Act.put, List.setIfInBounds_toArray, List.set_cons_zero, List.set_cons_succ]
            refine c_run rfl v6 (fun _ => rfl) (fun b γ W hcl h hb hn => ⟨w6, ?_, ?_⟩) ?_
            · rw [h.fst hb]
              exact exec_app rfl rfl rfl rfl Q1.out
            · have h15 := closed_not (j := 15) hcl 16 (by kernel_rfl) hb
              have e13 : Lib.up b 13 13 = true := up_at _ _
              have e15 : Lib.up b 13 15 = false := by rw [up_of_ne (by decide), h15]
              exact ⟨fun e => absurd (e13.symm.trans e) Bool.noConfusion, fun _ _ => rfl, fun e => absurd (e15.symm.trans e) Bool.noConfusion⟩
            refine c_pure rfl (.pointer (some ⟨a2.gh, j, none⟩)) (fun _ => rfl) (fun b γ W h => h.up _ (by decide) (by decide)) (fun b γ W _ h _ => by go_simp) ?_
            refine c_store rfl (fun _ => rfl) (fun b γ W hcl h hb hn => ⟨W.setCell ⟨a2.gh, j, none⟩ v6, ?_, ?_⟩) ?_
            · rw [h.snd (hn 13 (by decide)) hb]
              rw [hpe] at y6
              rw [hv6]
              go_simp
            · have h13 : b 13 = true := hn 13 (by decide)
              have e13 : Lib.up b 15 13 = true := by rw [up_of_ne (by decide), h13]
              have e15 : Lib.up b 15 15 = true := up_at _ _
              exact ⟨fun e => absurd (e13.symm.trans e) Bool.noConfusion, fun _ e => absurd (e15.symm.trans e) Bool.noConfusion, fun _ => by rw [h.snd h13 hb]⟩
            refine t_end ?_
            intro bq gq w7 hall hS
            simp only [Act.put, List.setIfInBounds_toArray, List.set_cons_zero, List.set_cons_succ]
            obtain rfl := hS.2.thd (hall 15 (by decide))
            clear hS hall x5 x6 y5 y6 f6
            obtain ⟨w7, hw7⟩ : ∃ w7, w7 = w6.setCell ⟨a2.gh, j, none⟩ v6 := ⟨_, rfl⟩
            have hz7 := HZ7.out
            rw [← hw7] at hz7 ⊢
            clear hw7
            obtain ⟨a3, ha3⟩ : ∃ a3 : Qa, a3 = { a2 with es := WireW.upd a2.es j v6 } := ⟨_, rfl⟩
            rw [← ha3] at hz7
            have HZ7 := hid hz7
            have x7 : w7.cell? ⟨a.gw, 1, none⟩ = some (.slice (some ⟨a3.gh, 0, none⟩) r1.n a3.ch) := by rw [← hz7.gw]; exact hz7.rm.top.cell 1
            have y7 : w7.cell? ⟨a3.gh, j, none⟩ = some (.slice p6 L7.length cap6) := by
              have := hz7.rm.hrow.cell hlt
              rw [show a3.es j = v6 by rw [ha3]; exact upd_at _ _ _, hv6] at this
              exact this
            have hes : a3.es j = v6 := by rw [ha3]; exact upd_at _ _ _
            have h7 : Hrow w7 D v6 L7 := by
              have := hz7.rm.heard j hlt
              rw [hes] at this
              simp only [upd_at] at this
              exact this
            have HES := hid hes
            have HH7 := hid h7
            rw [hv6]
            have HA3 := hid ha3
            clear hz7 hes h7 ha3
            by_cases hc : 100 < L7.length
            · have u8 : ((L7.length : Int) > 100) = True := eq_true (by omega)
              have u9 : decide ((L7.length : Int) > 100) = true := decide_eq_true (by omega)
              have u10 : (100 < (L7.length : Int)) = True := eq_true (by omega)
              have u11 : decide (100 < (L7.length : Int)) = true := decide_eq_true (by omega)
              have u12 : IntKind.i64.wrap ((L7.length : Int) - 100) = (L7.length : Int) - 100 := by have := HN7.out; rw [IntKind.wrap_i64]; omega
              obtain ⟨gq, oq, rfl, hcq⟩ : ∃ gq oq, p6 = some ⟨gq, oq, none⟩ ∧ L7.length ≤ cap6 := by
                rcases HH7.out with ⟨e, e2⟩ | ⟨gq, oq, cp, e, _, hle, _⟩
                · rw [e2] at hc; simp at hc
                · rw [hv6] at e
                  injection e with e1 e2 e3
                  exact ⟨gq, oq, e1, by omega⟩
              have hcut7 := Hrow.cut (W := w7) (base := D) (g := gq) (o := oq) (cap := cap6) (L := L7) (by rw [← hv6]; exact HH7.out) (by omega)
              have HCUT := hid (show Hrow w7.drew D (.slice (some ⟨gq, oq + (L7.length - 100) * 6, none⟩) 100 (cap6 - (L7.length - 100))) (keep L7) from hcut7.kp (F := fun _ => False) (Kp.refl _ _).drew (fun _ _ e => e))
              have HOB := hid (show (Value.slice (some ⟨gq, oq + (L7.length - 100) * 6, none⟩) 100 (cap6 - (L7.length - 100))).ownBlock = (a3.es j).ownBlock by rw [HES.out, hv6]; rfl)
              have f7 := HZ7.out.rm.hrow.frozen j
              have HC := hid hc
              have HCQ := hid hcq
              obtain ⟨v8, hv8⟩ : ∃ v8, v8 = Value.slice (some ⟨gq, oq + (L7.length - 100) * 6, none⟩) 100 (cap6 - (L7.length - 100)) := ⟨_, rfl⟩
              have HV8 := hid hv8
              clear hc hcq hcut7 hv6 hv8 hpe
              go_wp2_with fail
              refine region_textC (by kernel_rfl) (by kernel_rfl) (fun b _ W => C18 w7.drew (w7.drew.setCell ⟨a3.gh, j, none⟩ v8) b W) ⟨fun _ => rfl, fun e => absurd e (by decide)⟩ ?_
              iterate 2 refine c_pure rfl (.pointer (some ⟨a.gw, 0, none⟩)) (fun _ => rfl) (fun b γ W h => h.up _ (by decide)) (fun b γ W _ h _ => by go_simp) ?_
              refine c_pure rfl (.pointer (some ⟨a.gw, 1, none⟩)) (fun _ => rfl) (fun b γ W h => h.up _ (by decide)) (fun b γ W _ h _ => by go_simp) ?_
              refine c_run rfl (.slice (some ⟨a3.gh, 0, none⟩) r1.n a3.ch) (fun _ => rfl) (fun b γ W hcl h hb _ => ⟨W, ?_, h.up _ (by decide)⟩) ?_
              · rw [h.fst (closed_not hcl 24 (by kernel_rfl) hb)]
                go_simp
              refine c_pure rfl (.int .i64 j) (fun _ => rfl) (fun b γ W h => h.up _ (by decide)) (fun b γ W _ h _ => by go_simp) ?_
              iterate 2 refine c_pure rfl (.pointer (some ⟨a.gw, 0, none⟩)) (fun _ => rfl) (fun b γ W h => h.up _ (by decide)) (fun b γ W _ h _ => by go_simp) ?_
              refine c_pure rfl (.pointer (some ⟨a.gw, 1, none⟩)) (fun _ => rfl) (fun b γ W h => h.up _ (by decide)) (fun b γ W _ h _ => by go_simp) ?_
              refine c_run rfl (.slice (some ⟨a3.gh, 0, none⟩) r1.n a3.ch) (fun _ => rfl) (fun b γ W hcl h hb _ => ⟨W, ?_, h.up _ (by decide)⟩) ?_
              · rw [h.fst (closed_not hcl 24 (by kernel_rfl) hb)]
                go_simp
              refine c_pure rfl (.int .i64 j) (fun _ => rfl) (fun b γ W h => h.up _ (by decide)) (fun b γ W _ h _ => by go_simp) ?_
              refine c_pure rfl (.pointer (some ⟨a3.gh, j, none⟩)) (fun _ => rfl) (fun b γ W h => h.up _ (by decide)) (fun b γ W _ h _ => by go_simp) ?_
              refine c_run rfl (.slice (some ⟨gq, oq, none⟩) L7.length cap6) (fun _ => rfl) (fun b γ W hcl h hb _ => ⟨W, ?_, h.up _ (by decide)⟩) ?_
              · rw [h.fst (closed_not hcl 24 (by kernel_rfl) hb)]
                go_simp
              iterate 2 refine c_pure rfl (.pointer (some ⟨a.gw, 0, none⟩)) (fun _ => rfl) (fun b γ W h => h.up _ (by decide)) (fun b γ W _ h _ => by go_simp) ?_
              refine c_pure rfl (.pointer (some ⟨a.gw, 1, none⟩)) (fun _ => rfl) (fun b γ W h => h.up _ (by decide)) (fun b γ W _ h _ => by go_simp) ?_
              refine c_run rfl (.slice (some ⟨a3.gh, 0, none⟩) r1.n a3.ch) (fun _ => rfl) (fun b γ W hcl h hb _ => ⟨W, ?_, h.up _ (by decide)⟩) ?_
              · rw [h.fst (closed_not hcl 24 (by kernel_rfl) hb)]
                go_simp
              refine c_pure rfl (.int .i64 j) (fun _ => rfl) (fun b γ W h => h.up _ (by decide)) (fun b γ W _ h _ => by go_simp) ?_
              refine c_pure rfl (.pointer (some ⟨a3.gh, j, none⟩)) (fun _ => rfl) (fun b γ W h => h.up _ (by decide)) (fun b γ W _ h _ => by go_simp) ?_
              refine c_run rfl (.slice (some ⟨gq, oq, none⟩) L7.length cap6) (fun _ => rfl) (fun b γ W hcl h hb _ => ⟨W, ?_, h.up _ (by decide)⟩) ?_
              · rw [h.fst (closed_not hcl 24 (by kernel_rfl) hb)]
                go_simp
              refine c_pure rfl (.int .i64 L7.length) (fun _ => rfl) (fun b γ W h => h.up _ (by decide)) (fun b γ W _ h _ => by go_simp) ?_
              refine c_pure rfl (.int .i64 ((L7.length : Int) - 100)) (fun _ => rfl) (fun b γ W h => h.up _ (by decide)) (fun b γ W _ h _ => by go_simp) ?_
              refine c_pure rfl (.slice (some ⟨gq, oq + (L7.length - 100) * 6, none⟩) 100 (cap6 - (L7.length - 100))) (fun _ => rfl) (fun b γ W h => h.up _ (by decide)) (fun b γ W _ h _ => ?_) ?_
              · have q1 := HC.out
                have q0 := HCQ.out
                have q2 : (0 : Int) ≤ (L7.length : Int) - 100 := by omega
                have q3 : (L7.length : Int) - 100 ≤ L7.length := by omega
                have q4 : ((L7.length : Int) - 100).toNat = L7.length - 100 := by omega
                have q5 : L7.length - (L7.length - 100) = 100 := by omega
                have q6 : (cap6 = L7.length - 100) = False := eq_false (by omega)
                have q7 : ((L7.length : Int) < 100) = False := eq_false (by omega)
                go_simp
              refine c_pure rfl (.pointer (some ⟨a3.gh, j, none⟩)) (fun _ => rfl) (fun b γ W h => h.up _ (by decide)) (fun b γ W _ h _ => by go_simp) ?_
              refine c_store rfl (fun _ => rfl) (fun b γ W hcl h hb hn => ⟨w7.drew.setCell ⟨a3.gh, j, none⟩ v8, ?_, ?_⟩) ?_
              · rw [h.fst hb, HV8.out]
                go_simp
              · have e23 : Lib.up b 23 23 = true := up_at _ _
                exact ⟨fun e => absurd (e23.symm.trans e) Bool.noConfusion, fun _ => rfl⟩
              refine t_end ?_
              intro bq gq2 w9 hall hS
              simp only [Act.put, List.setIfInBounds_toArray, List.set_cons_zero, List.set_cons_succ]
              obtain rfl := hS.2.snd (hall 23 (by decide))
              have hz9 := HZ7.out.drew.heard hlt (Kp.refl _ _) (.inl HOB.out) HCUT.out (by have := keep_len L7; omega)
              rw [upd_upd, ← HV8.out] at hz9
              have HZ9 := hid (hz9.done (by rw [← HL7.out]) H6.out.short)
              clear hz9 hS hall
              go_wp2_with fail
              exact ⟨⟨j + 1, _, by omega, rfl, HZ9.out⟩, by simp [intOf]; omega⟩
            · have u8 : ((L7.length : Int) > 100) = False := eq_false (by omega)
              have u9 : decide ((L7.length : Int) > 100) = false := decide_eq_false (by omega)
              have u10 : (100 < (L7.length : Int)) = False := eq_false (by omega)
              have u11 : decide (100 < (L7.length : Int)) = false := decide_eq_false (by omega)
              have HC := hid hc
              clear hc
              go_wp2_with fail
              exact ⟨⟨j + 1, _, by omega, rfl, HZ7.out.done (by rw [← HL7.out]; unfold keep; rw [show L7.length - 100 = 0 by have := HC.out; omega]; rfl) H6.out.short⟩, by simp [intOf]; omega⟩
          · obtain rfl : j = r1.n := by omega
            go_wp2_with fail
            go_ret
            have hh := H6.out
            rw [HR1.out] at hh
            exact ⟨_, a1, _, rfl, rfl, hh⟩
end Go.Proofs.YtpkpnaedacefaaaGreat.WireQ

/- A wire's copy. -/
namespace Go.Proofs.YtpkpnaedacefaaaGreat.WireQ
set_option linter.unusedVariables false
set_option linter.unusedSimpArgs false
open Go Go.RowKit Go.Proofs.YtpkpnaedacefaaaGreat.Lib Go.Proofs.YtpkpnaedacefaaaGreat.Bits Go.Proofs.YtpkpnaedacefaaaGreat.BitsW Go.Proofs.YtpkpnaedacefaaaGreat.Mac Go.Proofs.YtpkpnaedacefaaaGreat.MacW Go.Proofs.YtpkpnaedacefaaaGreat.WireN Go.Proofs.YtpkpnaedacefaaaGreat.WireW Go.Proofs.YtpkpnaedacefaaaGreat.BusW Go.Proofs.YtpkpnaedacefaaaGreat.PrintMore
attribute [local go_sem] max2_int min2_int max_two min_two
theorem ncs_setm (gs : Nat → Nat) (vs : Nat → Value) (i q : Nat) : ∀ n, i < n → (ncs gs vs n).set (i * 2) (.pointer (some ⟨q, 0, none⟩)) = ncs (WireW.upd gs i q) vs n := by
  intro n hi
  rw [ncs_rcs, ncs_rcs, rcs_set _ _ _ _ _ hi]
  refine rcs_congr n (fun k _ => ?_) (fun _ _ => rfl)
  by_cases e : k = i
  · subst e; rw [upd_at, upd_at]
  · rw [upd_ne _ _ e, upd_ne _ _ e]
/-- A copy while it is made: j nodes are. -/
structure Cw (w0 W0 W : World) (a : Ga) (c : Gc) (j : Nat) : Prop where
  top : Blk W a.gw 63 [.slice (some ⟨a.gr, 0, none⟩) c.n c.n, .pointer (some ⟨a.gb, 0, none⟩)]
  row : Blk W a.gr 66 (ncs a.gs a.vs c.n)
  node : ∀ i, i < j → Nf w0 W (a.gs i) (c.ms i) ∧ W0.heap.size ≤ a.gs i
  heard : ∀ i, i < j → Evs W W0.heap.size (a.vs i) (c.hs i)
  bus : IsBus W W0.heap.size a.gb a.bv c.l c.bn c.t
  inj : ∀ i i', i < j → i' < j → a.gs i = a.gs i' → i = i'
  apart : ∀ i i' k, i < j → i' < j → (a.vs i).ownBlock = some k → (a.vs i').ownBlock = some k → i = i'
  bl : Below W0.heap.size W0 W
  lw : W0.heap.size ≤ a.gw
  lr : W0.heap.size ≤ a.gr
theorem Cw.later {w0 W0 W W' : World} {a : Ga} {c : Gc} {j : Nat} (h : Cw w0 W0 W a c j) (k : Below W.heap.size W W') : Cw w0 W0 W' a c j :=
  ⟨h.top.below k, h.row.below k, fun i hi => ⟨(h.node i hi).1.later k, (h.node i hi).2⟩, fun i hi => evs_below (h.heard i hi) k, bus_kp (F := fun _ => False) h.bus (Kp.of_below k _) (fun e => e) (fun _ _ e => e), h.inj, h.apart, h.bl.trans (k.mono h.bl.size), h.lw, h.lr⟩
/-- One more. -/
theorem Cw.put {w0 W0 wr W : World} {a : Ga} {c : Gc} {j q : Nat} {v : Value} (h : Cw w0 W0 wr a c j) (k : Below wr.heap.size wr W) (hw : w0.heap.size ≤ W0.heap.size) (hj : j < c.n) (hq : Nf w0 W q (c.ms j)) (hg : wr.heap.size ≤ q) (hv : Evs W wr.heap.size v (c.hs j)) :
    Cw w0 W0 ((W.setCell ⟨a.gr, j * 2, none⟩ (.pointer (some ⟨q, 0, none⟩))).setCell ⟨a.gr, j * 2 + 1, none⟩ v) { a with gs := WireW.upd a.gs j q, vs := WireW.upd a.vs j v } c (j + 1) := by
  have h0 := h
  have h := h.later k
  have h9 := h0.bl.size
  have kk : Kp (fun i => i = a.gr) W ((W.setCell ⟨a.gr, j * 2, none⟩ (.pointer (some ⟨q, 0, none⟩))).setCell ⟨a.gr, j * 2 + 1, none⟩ v) := Kp.set (F := fun i => i = a.gr) (Kp.set (F := fun i => i = a.gr) (Kp.refl _ W) ⟨a.gr, j * 2, none⟩ _ (.inl rfl)) ⟨a.gr, j * 2 + 1, none⟩ _ (.inl rfl)
  have t := ty_blk h.row
  have hF : ∀ i, i = a.gr → w0.heap.size ≤ i := fun i e => e ▸ Nat.le_trans hw h.lr
  have hr := (h.row.set (j * 2) (.pointer (some ⟨q, 0, none⟩))).set (j * 2 + 1) v
  rw [ncs_setm _ _ _ _ _ hj, ncs_set _ _ _ _ _ hj] at hr
  refine ⟨blk_kp h.top kk ((ty_blk h.top).ne t (by decide)), hr, fun i hi => ?_, fun i hi => ?_, bus_kp h.bus kk ((ty_blk h.bus.2.1).ne t (by decide)) (fun i e => (ty_owns h.bus.2.2 e).ne t (by decide)), fun i i' hi hi' e => ?_, fun i i' k hi hi' e e' => ?_, kk.below h.bl h.bl.size (fun i e => e ▸ h.lr), h.lw, h.lr⟩
  · show Nf w0 _ (WireW.upd a.gs j q i) (c.ms i) ∧ _ ≤ WireW.upd a.gs j q i
    by_cases e : i = j
    · subst e; rw [upd_at]; exact ⟨nf_kp hq kk ((ty_blk hq.nd.blk).ne t (by decide)) hF, by omega⟩
    · rw [upd_ne _ _ e]
      have hn := h.node i (by omega)
      exact ⟨nf_kp hn.1 kk ((ty_blk hn.1.nd.blk).ne t (by decide)) hF, hn.2⟩
  · show Evs _ W0.heap.size (WireW.upd a.vs j v i) (c.hs i)
    by_cases e : i = j
    · subst e; rw [upd_at]; exact owns_kp (evs_mono hv h9) kk (fun q e => (ty_owns hv e).ne t (by decide))
    · rw [upd_ne _ _ e]
      have hn := h.heard i (by omega)
      exact owns_kp hn kk (fun q e => (ty_owns hn e).ne t (by decide))
  · change WireW.upd a.gs j q i = WireW.upd a.gs j q i' at e
    by_cases e1 : i = j
    · by_cases e2 : i' = j
      · rw [e1, e2]
      · subst e1; rw [upd_at, upd_ne _ _ e2] at e
        have := (h0.node i' (by omega)).1.nd.blk.lt; omega
    · by_cases e2 : i' = j
      · subst e2; rw [upd_at, upd_ne _ _ e1] at e
        have := (h0.node i (by omega)).1.nd.blk.lt; omega
      · rw [upd_ne _ _ e1, upd_ne _ _ e2] at e; exact h.inj i i' (by omega) (by omega) e
  · change (WireW.upd a.vs j v i).ownBlock = some k at e
    change (WireW.upd a.vs j v i').ownBlock = some k at e'
    by_cases e1 : i = j
    · by_cases e2 : i' = j
      · rw [e1, e2]
      · subst e1; rw [upd_at] at e; rw [upd_ne _ _ e2] at e'
        have := (owns_lt (h0.heard i' (by omega)) e').2; have := (owns_lt hv e).1; omega
    · rw [upd_ne _ _ e1] at e
      by_cases e2 : i' = j
      · subst e2; rw [upd_at] at e'
        have := (owns_lt (h0.heard i (by omega)) e).2; have := (owns_lt hv e').1; omega
      · rw [upd_ne _ _ e2] at e'; exact h.apart i i' k (by omega) (by omega) e e'
theorem Cw.done {w0 W0 W : World} {a : Ga} {c : Gc} (h : Cw w0 W0 W a c c.n) (hw : Below w0.heap.size w0 W0) (h1 : 1 ≤ c.n) (h8 : c.n ≤ 8) (hsh : ∀ i, i < c.n → (c.hs i).length ≤ 200) (hl : c.l.length ≤ 8000) : WM w0 W W0.heap.size a c :=
  ⟨h.top, h.row, fun i hi => (h.node i hi).1, h.heard, hsh, h.bus, h.inj, h.apart, hw.trans (h.bl.mono hw.size), hw.size, h.lw, h.lr, fun i hi => (h.node i hi).2, h1, h8, hl⟩
/-- The region that makes the copy. -/
structure V1 (w : World) (k : Nat) (L : List UInt8) (bn : Int) (bt : Bool) (b : Nat → Bool) (γ : Nat → Nat) (W : World) : Prop where
  below : Below w.heap.size w W
  row : b 5 = true → w.heap.size ≤ γ 5 ∧ Blk W (γ 5) 66 (rcs (fun _ => .pointer none) (fun _ => .slice none 0 0) k)
  bus : b 10 = true → ∃ bv, IsBus W w.heap.size (γ 10) bv L bn bt
  top : b 12 = true → w.heap.size ≤ γ 12 ∧ Blk W (γ 12) 63 [.slice (some ⟨γ 5, 0, none⟩) k k, .pointer (some ⟨γ 10, 0, none⟩)]
theorem V1.up {w : World} {k : Nat} {L : List UInt8} {bn : Int} {bt : Bool} {b : Nat → Bool} {γ : Nat → Nat} {W : World} (h : V1 w k L bn bt b γ W) (i : Nat) (h3 : i ≠ 5) (h4 : i ≠ 10) (h6 : i ≠ 12) : V1 w k L bn bt (up b i) γ W := by
  have e3 : Lib.up b i 5 = b 5 := up_of_ne (fun e => h3 e.symm)
  have e4 : Lib.up b i 10 = b 10 := up_of_ne (fun e => h4 e.symm)
  have e6 : Lib.up b i 12 = b 12 := up_of_ne (fun e => h6 e.symm)
  exact ⟨h.below, by rw [e3]; exact h.row, by rw [e4]; exact h.bus, by rw [e6]; exact h.top⟩
/-- The region that copies the row. -/
structure V2 (w0 w1 : World) (b : Nat → Bool) (W : World) : Prop where
  fst : b 8 = false → W = w0
  snd : b 8 = true → W = w1
theorem V2.up {w0 w1 : World} {b : Nat → Bool} {W : World} (h : V2 w0 w1 b W) (i : Nat) (h1 : i ≠ 8) : V2 w0 w1 (up b i) W := by
  have e1 : Lib.up b i 8 = b 8 := up_of_ne (fun e => h1 e.symm)
  exact ⟨by rw [e1]; exact h.fst, by rw [e1]; exact h.snd⟩
/-- The region that copies a node. -/
structure V6 (w0 W0 wr : World) (a : Ga) (c : Gc) (j : Nat) (b : Nat → Bool) (γ : Nat → Nat) (W : World) : Prop where
  bl : b 25 = false → Below wr.heap.size wr W
  nd : b 13 = true → b 25 = false → Nf w0 W (γ 13) (c.ms j) ∧ wr.heap.size ≤ γ 13
  ev : b 22 = true → b 25 = false → Evs W wr.heap.size (decV (c.hs j).length (γ 22)) (c.hs j)
  fin : b 25 = true → Cw w0 W0 W { a with gs := WireW.upd a.gs j (γ 13), vs := WireW.upd a.vs j (decV (c.hs j).length (γ 22)) } c (j + 1)
theorem V6.up {w0 W0 wr : World} {a : Ga} {c : Gc} {j : Nat} {b : Nat → Bool} {γ : Nat → Nat} {W : World} (h : V6 w0 W0 wr a c j b γ W) (i : Nat) (h1 : i ≠ 13) (h2 : i ≠ 22) (h3 : i ≠ 25) : V6 w0 W0 wr a c j (up b i) γ W := by
  have e1 : Lib.up b i 13 = b 13 := up_of_ne (fun e => h1 e.symm)
  have e2 : Lib.up b i 22 = b 22 := up_of_ne (fun e => h2 e.symm)
  have e3 : Lib.up b i 25 = b 25 := up_of_ne (fun e => h3 e.symm)
  exact ⟨by rw [e3]; exact h.bl, by rw [e1, e3]; exact h.nd, by rw [e2, e3]; exact h.ev, by rw [e3]; exact h.fin⟩
end Go.Proofs.YtpkpnaedacefaaaGreat.WireQ

/- A wire's copy, walked. -/
namespace Go.Proofs.YtpkpnaedacefaaaGreat.WireQ
set_option linter.unusedVariables false
set_option linter.unusedSimpArgs false
open Go Go.RowKit Go.Proofs.YtpkpnaedacefaaaGreat.Lib Go.Proofs.YtpkpnaedacefaaaGreat.Bits Go.Proofs.YtpkpnaedacefaaaGreat.BitsW Go.Proofs.YtpkpnaedacefaaaGreat.Mac Go.Proofs.YtpkpnaedacefaaaGreat.MacW Go.Proofs.YtpkpnaedacefaaaGreat.WireN Go.Proofs.YtpkpnaedacefaaaGreat.WireW Go.Proofs.YtpkpnaedacefaaaGreat.BusW Go.Proofs.YtpkpnaedacefaaaGreat.PrintMore
attribute [local go_sem] max2_int min2_int max_two min_two
theorem ncs_one (gs : Nat → Nat) (vs : Nat → Value) : ∀ n, (∀ i, i < n → (vs i).oneCell' = true) → ∀ u ∈ ncs gs vs n, u.oneCell' = true
  | 0, _, u, hu => by simp [ncs] at hu
  | n + 1, h, u, hu => by
    rw [ncs, List.mem_append] at hu
    rcases hu with hu | hu
    · exact ncs_one gs vs n (fun i hi => h i (by omega)) u hu
    · simp only [List.mem_cons, List.not_mem_nil, or_false] at hu
      rcases hu with rfl | rfl
      · rfl
      · exact h n (by omega)
theorem bel_cell {w W : World} {g i : Nat} {v : Value} (k : Below w.heap.size w W) (h : w.cell? ⟨g, i, none⟩ = some v) : W.cell? ⟨g, i, none⟩ = some v := by
  have hg : g < w.heap.size := by
    by_cases e : g < w.heap.size
    · exact e
    · have : w.heap[g]? = none := Array.getElem?_eq_none (by omega)
      simp [World.cell?, this] at h
  exact (cell_heap (k.block g hg)).trans h
set_option maxRecDepth 100000 in
set_option maxHeartbeats 6400000 in
theorem wcopy_calls {w0 W : World} {B : Nat} {a : Ga} {c : Gc} (h : WM w0 W B a c) : Calls Tryz.prog 18 #[.pointer (some ⟨a.gw, 0, none⟩)] W fun e w' =>
    ∃ a' : Ga, e = .returned (.pointer (some ⟨a'.gw, 0, none⟩)) ∧ WM w0 w' W.heap.size a' c ∧ Below W.heap.size W w' := by
  have H := hid h
  obtain ⟨k, hk⟩ : ∃ k, k = c.n := ⟨_, rfl⟩
  have H1 := hid (show 1 ≤ k from hk ▸ h.pos)
  have H8 := hid (show k ≤ 8 from hk ▸ h.most)
  have HT := hid (show Blk W a.gw 63 [.slice (some ⟨a.gr, 0, none⟩) k k, .pointer (some ⟨a.gb, 0, none⟩)] from hk ▸ h.top)
  have HR := hid (show Blk W a.gr 66 (ncs a.gs a.vs k) from hk ▸ h.row)
  have HK := hid hk
  clear h hk
  go_enter Tryz.func18, Tryz.ntmps18
  go_wp2_with fail
  refine region_textC (by kernel_rfl) (by kernel_rfl) (V1 W k c.l c.bn c.t) ⟨(Below.refl _ W).drew, fun e => absurd e (by decide), fun e => absurd e (by decide), fun e => absurd e (by decide)⟩ ?_
  iterate 3 refine c_pure rfl (.pointer (some ⟨a.gw, 0, none⟩)) (fun _ => rfl) (fun b γ W h => h.up _ (by decide) (by decide) (by decide)) (fun b γ W _ h _ => by go_simp) ?_
  refine c_pure rfl (.slice (some ⟨a.gr, 0, none⟩) k k) (fun _ => rfl) (fun b γ W h => h.up _ (by decide) (by decide) (by decide)) (fun b γ W' _ h _ => by
    have c0 : W'.cell? ⟨a.gw, 0, none⟩ = some (.slice (some ⟨a.gr, 0, none⟩) k k) := (HT.out.below h.below).cell 0
    go_simp) ?_
  refine c_pure rfl (.int .i64 k) (fun _ => rfl) (fun b γ W h => h.up _ (by decide) (by decide) (by decide)) (fun b γ W _ h _ => by go_simp) ?_
  refine c_any rfl (fun γ => .slice (some ⟨γ 5, 0, none⟩) k k) (fun γ γ' hg => by simp only; rw [hg 5 (.inl rfl)]) (fun _ => rfl) (fun b γ W hcl h hb hn => ⟨W.heap.size, W.alloc (.cells (rcs (fun _ => .pointer none) (fun _ => .slice none 0 0) k).toArray 66), ?_, ?_⟩) ?_
  · have hr := make_nodes k H1.out H8.out W
    unfold execOp
    simp only [Sem.run_bind]
    erw [hr]
    rfl
  · have h12 := closed_not (j := 12) hcl 14 (by kernel_rfl) hb
    have e10 : Lib.up b 5 10 = b 10 := up_of_ne (by decide)
    have e12 : Lib.up b 5 12 = false := by rw [up_of_ne (by decide), h12]
    have g5 : Lib.upd γ 5 W.heap.size 5 = W.heap.size := by simp [Lib.upd]
    have g10 : Lib.upd γ 5 W.heap.size 10 = γ 10 := by simp [Lib.upd]
    refine ⟨h.below.alloc h.below.size _, fun _ => ?_, fun q => ?_, fun q => absurd (e12.symm.trans q) Bool.false_ne_true⟩
    · rw [g5]; exact ⟨h.below.size, Blk.new W _ _⟩
    · rw [e10] at q
      rw [g10]
      obtain ⟨bv, q1⟩ := h.bus q
      exact ⟨bv, bus_kp (F := fun _ => False) q1 ((Kp.refl _ _).alloc _) (fun e => e) (fun _ _ e => e)⟩
  iterate 2 refine c_pure rfl (.pointer (some ⟨a.gw, 0, none⟩)) (fun _ => rfl) (fun b γ W h => h.up _ (by decide) (by decide) (by decide)) (fun b γ W _ h _ => by go_simp) ?_
  refine c_pure rfl (.pointer (some ⟨a.gw, 1, none⟩)) (fun _ => rfl) (fun b γ W h => h.up _ (by decide) (by decide) (by decide)) (fun b γ W _ h _ => by go_simp) ?_
  refine c_pure rfl (.pointer (some ⟨a.gb, 0, none⟩)) (fun _ => rfl) (fun b γ W h => h.up _ (by decide) (by decide) (by decide)) (fun b γ W' _ h _ => by
    have c0 : W'.cell? ⟨a.gw, 1, none⟩ = some (.pointer (some ⟨a.gb, 0, none⟩)) := (HT.out.below h.below).cell 1
    go_simp) ?_
  refine c_callN rfl (f := 31) #[.pointer (some ⟨a.gb, 0, none⟩)] (fun n => .pointer (some ⟨n, 0, none⟩)) (fun _ => rfl) (fun b γ W h _ => by go_simp) (fun b γ W' hcl h hb _ => ?_) ?_
  · have h12 := closed_not (j := 12) hcl 14 (by kernel_rfl) hb
    have e5 : Lib.up b 10 5 = b 5 := up_of_ne (by decide)
    have e12 : Lib.up b 10 12 = false := by rw [up_of_ne (by decide), h12]
    have hbus := bus_kp (F := fun _ => False) H.out.bus (Kp.of_below h.below _) (fun e => e) (fun _ _ e => e)
    refine (BusW.copy_calls B a.gb a.bv c.l c.bn c.t W' hbus (by have := H.out.ll; omega)).mono ?_
    rintro y w5 ⟨rfl, ⟨r, q1, q2, q3⟩, q4⟩
    have g5 : Lib.upd γ 10 W'.heap.size 5 = γ 5 := by simp [Lib.upd]
    have g10 : Lib.upd γ 10 W'.heap.size 10 = W'.heap.size := by simp [Lib.upd]
    have hs := h.below.size
    refine ⟨W'.heap.size, rfl, h.below.trans (q4.mono hs), fun q => ?_, fun _ => ?_, fun q => absurd (e12.symm.trans q) Bool.false_ne_true⟩
    · rw [e5] at q; rw [g5]; exact ⟨(h.row q).1, (h.row q).2.below q4⟩
    · rw [g10]; exact ⟨_, hs, q2, q3.own (by omega) (by simp [byteVs]) (by have := H.out.ll; unfold maxLen; omega)⟩
  refine c_any rfl (fun γ => .agg #[.slice (some ⟨γ 5, 0, none⟩) k k, .pointer (some ⟨γ 10, 0, none⟩)]) (fun γ γ' hg => by simp only; rw [hg 5 (.inr (.one rfl (by decide))), hg 10 (.inr (.one rfl (by decide)))]) (fun _ => rfl) (fun b γ W hcl h hb hn => ⟨γ 11, W, ?_, ?_⟩) ?_
  · rw [show Lib.upd γ 11 (γ 11) = γ by funext j; unfold Lib.upd; split <;> simp_all]; go_simp
  · rw [show Lib.upd γ 11 (γ 11) = γ by funext j; unfold Lib.upd; split <;> simp_all]
    exact h.up _ (by decide) (by decide) (by decide)
  refine c_any rfl (fun γ => .pointer (some ⟨γ 12, 0, none⟩)) (fun γ γ' hg => by simp only; rw [hg 12 (.inl rfl)]) (fun _ => rfl) (fun b γ W hcl h hb hn => ⟨W.heap.size, W.alloc (.cells #[.slice (some ⟨γ 5, 0, none⟩) k k, .pointer (some ⟨γ 10, 0, none⟩)] 63), ?_, ?_⟩) ?_
  · rw [show Lib.upd γ 12 W.heap.size 12 = W.heap.size by simp [Lib.upd]]
    go_simp
  · have e5 : Lib.up b 12 5 = b 5 := up_of_ne (by decide)
    have e10 : Lib.up b 12 10 = b 10 := up_of_ne (by decide)
    have g5 : Lib.upd γ 12 W.heap.size 5 = γ 5 := by simp [Lib.upd]
    have g10 : Lib.upd γ 12 W.heap.size 10 = γ 10 := by simp [Lib.upd]
    have g12 : Lib.upd γ 12 W.heap.size 12 = W.heap.size := by simp [Lib.upd]
    refine ⟨h.below.alloc h.below.size _, fun q => ?_, fun q => ?_, fun _ => ?_⟩
    · rw [e5] at q; rw [g5]; exact ⟨(h.row q).1, (h.row q).2.alloc _⟩
    · rw [e10] at q; rw [g10]
      obtain ⟨bv, q1⟩ := h.bus q
      exact ⟨bv, bus_kp (F := fun _ => False) q1 ((Kp.refl _ _).alloc _) (fun e => e) (fun _ _ e => e)⟩
    · rw [g5, g10, g12]; exact ⟨h.below.size, Blk.new W [_, _] _⟩
  refine c_any rfl (fun γ => .pointer (some ⟨γ 12, 0, none⟩)) (fun γ γ' hg => by simp only; rw [hg 12 (.inr (.one rfl (by decide)))]) (fun _ => rfl) (fun b γ W hcl h hb hn => ⟨γ 13, W, ?_, ?_⟩) ?_
  · rw [show Lib.upd γ 13 (γ 13) = γ by funext j; unfold Lib.upd; split <;> simp_all]; go_simp
  · rw [show Lib.upd γ 13 (γ 13) = γ by funext j; unfold Lib.upd; split <;> simp_all]
    exact h.up _ (by decide) (by decide) (by decide)
  refine t_end ?_
  intro bq gq w1 hall hS
  simp only [Act.put, List.setIfInBounds_toArray, List.set_cons_zero, List.set_cons_succ]
  have t5 := hS.2.row (hall 5 (by decide))
  obtain ⟨bv, t10⟩ := hS.2.bus (hall 10 (by decide))
  have t12 := hS.2.top (hall 12 (by decide))
  have tb := hS.2.below
  generalize gq 5 = gr at t5 t12 ⊢
  generalize gq 10 = gb at t10 t12 ⊢
  generalize gq 12 = gw at t12 ⊢
  obtain ⟨l1, l2⟩ := t5
  obtain ⟨l3, l4⟩ := t12
  have L1 := hid l1
  have L2 := hid l2
  have L3 := hid l3
  have L4 := hid l4
  have T10 := hid t10
  have TB := hid tb
  have x0 : w1.cell? ⟨gw, 0, none⟩ = some (.slice (some ⟨gr, 0, none⟩) k k) := l4.cell 0
  have x1 : w1.cell? ⟨a.gw, 0, none⟩ = some (.slice (some ⟨a.gr, 0, none⟩) k k) := (HT.out.below tb).cell 0
  have hlen : (ncs a.gs a.vs k).length = k * 2 := ncs_len _ _ k
  obtain ⟨w2, hw2⟩ : ∃ w2, w2 = w1.drew.setRow gr (ncs a.gs a.vs k).toArray := ⟨_, rfl⟩
  have hcp : (Builtin.copy_ #[61, 61] 3 #[.slice (some ⟨gr, 0, none⟩) k k, .slice (some ⟨a.gr, 0, none⟩) k k]).run Tryz.prog w1.drew = .ok (.int .i64 k) w2 := by
    have := run_copy_rowS (P := Tryz.prog) w1.drew 61 61 3 66 gr 0 k k ⟨a.gr, 0, none⟩ k k 2 (rcs (fun _ => .pointer none) (fun _ => .slice none 0 0) k).toArray 66 (ncs a.gs a.vs k) Tryz.underlying61 (by kernel_rfl) l2
      (by rw [hlen]; simp) (fun j u hj => by rw [Addr.add_mid, Nat.zero_add]; exact ((HR.out.below tb).cell j).trans hj) (by rw [hlen]; simp [rcs_len]) (ncs_one _ _ _ (fun i hi => by
        obtain ⟨p, cap, e⟩ := H.out.v_slice (i := i) (HK.out ▸ hi)
        rw [e]; rfl))
    have hd : (rcs (fun _ => .pointer none) (fun _ => .slice none 0 0) k).drop (k * 2) = ([] : List Value) := List.drop_of_length_le (by rw [rcs_len]; exact Nat.le_refl _)
    rw [hw2]
    simpa [rcs_len, hlen, goInt, hd] using this
  have hb2 : Blk w2 gr 66 (ncs a.gs a.vs k) := by rw [hw2]; exact CodeW.blk_row l2.drew _
  have hk2 : Kp (fun i => i = gr) w1 w2 := by
    rw [hw2]
    exact ⟨rfl, rfl, rfl, by simp [World.setRow], fun i _ hn => setRow_other w1.drew gr i _ hn⟩
  have HC2 := hid (show Cw w0 W w2 { gw := gw, gr := gr, gb := gb, gs := a.gs, vs := a.vs, bv := bv } c 0 from by
    refine ⟨?_, ?_, fun i hi => absurd hi (Nat.not_lt_zero i), fun i hi => absurd hi (Nat.not_lt_zero i), ?_, fun i _ hi => absurd hi (Nat.not_lt_zero i), fun i _ _ hi => absurd hi (Nat.not_lt_zero i), hk2.below tb tb.size (fun i e => e ▸ l1), l3, l1⟩
    · rw [← HK.out]; exact blk_kp l4 hk2 (l4.ne l2 (by decide))
    · rw [← HK.out]; exact hb2
    · exact bus_kp t10 hk2 ((ty_blk t10.2.1).ne (ty_blk l2) (by decide)) (fun i e => (ty_owns t10.2.2 e).ne (ty_blk l2) (by decide)))
  have HCP := hid hcp
  clear hw2 hb2 hk2 hcp l1 l2 l3 l4 t10 tb hS hall hlen
  go_wp2_with fail
  refine region_textC (by kernel_rfl) (by kernel_rfl) (fun b _ W => V2 w1.drew w2 b W) ⟨fun _ => rfl, fun e => absurd e (by decide)⟩ ?_
  iterate 3 refine c_pure rfl (.pointer (some ⟨gw, 0, none⟩)) (fun _ => rfl) (fun b γ W h => h.up _ (by decide)) (fun b γ W _ h _ => by go_simp) ?_
  refine c_run rfl (.slice (some ⟨gr, 0, none⟩) k k) (fun _ => rfl) (fun b γ W hcl h hb _ => ⟨W, ?_, h.up _ (by decide)⟩) ?_
  · rw [h.fst (closed_not hcl 10 (by kernel_rfl) hb)]
    go_simp
  iterate 3 refine c_pure rfl (.pointer (some ⟨a.gw, 0, none⟩)) (fun _ => rfl) (fun b γ W h => h.up _ (by decide)) (fun b γ W _ h _ => by go_simp) ?_
  refine c_run rfl (.slice (some ⟨a.gr, 0, none⟩) k k) (fun _ => rfl) (fun b γ W hcl h hb _ => ⟨W, ?_, h.up _ (by decide)⟩) ?_
  · rw [h.fst (closed_not hcl 10 (by kernel_rfl) hb)]
    go_simp
  refine c_run rfl (.int .i64 k) (fun _ => rfl) (fun b γ W hcl h hb _ => ⟨w2, ?_, ?_⟩) ?_
  · rw [h.fst hb]
    have z1 := HCP.out
    clear x0 x1
    go_simp
  · have e8 : Lib.up b 8 8 = true := up_at _ _
    exact ⟨fun e => absurd (e8.symm.trans e) Bool.noConfusion, fun _ => rfl⟩
  refine t_end ?_
  intro bq gq w3 hall hS
  simp only [Act.put, List.setIfInBounds_toArray, List.set_cons_zero, List.set_cons_succ]
  obtain rfl := hS.2.snd (hall 8 (by decide))
  clear hS hall x0 x1
  have x2 : w3.cell? ⟨gw, 0, none⟩ = some (.slice (some ⟨gr, 0, none⟩) k k) := by rw [HK.out]; exact HC2.out.top.cell 0
  go_wp2_with fail
  clear x2
  go_loopw [32, 4] (fun i _ wr => ∃ (j : Nat) (gs : Nat → Nat) (vs : Nat → Value), j ≤ k ∧ i = .int .i64 j ∧ Cw w0 W wr { gw := gw, gr := gr, gb := gb, gs := gs, vs := vs, bv := bv } c j) (fun i _ _ => k - (intOf i).toNat)
  case atStart => exact ⟨0, a.gs, a.vs, Nat.zero_le _, rfl, HC2.out⟩
  case round =>
    clear HC2 HCP L1 L2 L3 L4 T10 TB
    obtain ⟨j, gs, vs, hj, rfl, HX⟩ := hrel
    obtain ⟨a1, ha1⟩ : ∃ a1 : Ga, a1 = { gw := gw, gr := gr, gb := gb, gs := gs, vs := vs, bv := bv } := ⟨_, rfl⟩
    rw [← ha1] at HX
    have H6 := hid HX
    have HA1 := hid ha1
    have x0 : wr.cell? ⟨gw, 0, none⟩ = some (.slice (some ⟨gr, 0, none⟩) k k) := by
      have := HX.top.cell 0
      rw [ha1, ← HK.out] at this
      exact this
    have hbr : Blk wr gr 66 (ncs gs vs k) := by
      have := HX.row
      rw [ha1, ← HK.out] at this
      exact this
    have HBR := hid hbr
    have HO := hid (H.out.new HX.bl)
    clear HX ha1 hbr
    by_cases hlt : j < k
    · have u0 : ((j : Int) < k) = True := eq_true (by omega)
      have u1 : decide ((j : Int) < k) = true := decide_eq_true (by omega)
      have u2 : IntKind.i64.wrap ((j : Int) + 1) = ((j + 1 : Nat) : Int) := by have := H8.out; rw [IntKind.wrap_i64]; omega
      have u3 : (j < k) = True := eq_true hlt
      have x1 : wr.cell? ⟨a.gw, 0, none⟩ = some (.slice (some ⟨a.gr, 0, none⟩) k k) := by rw [HK.out]; exact HO.out.c0
      have hltn : j < c.n := HK.out ▸ hlt
      have y0 := HO.out.rm hltn
      have y1 := HO.out.rv hltn
      obtain ⟨pv, cv, hv⟩ := HO.out.v_slice hltn
      have HL := hid hltn
      clear hltn
      go_wp2_with fail
      refine region_textC (by kernel_rfl) (by kernel_rfl) (V6 w0 W wr a1 c j) ⟨fun _ => (Below.refl _ wr).drew, fun e => absurd e (by decide), fun e => absurd e (by decide), fun e => absurd e (by decide)⟩ ?_
      iterate 3 refine c_pure rfl (.pointer (some ⟨gw, 0, none⟩)) (fun _ => rfl) (fun b γ W h => h.up _ (by decide) (by decide) (by decide)) (fun b γ W _ h _ => by go_simp) ?_
      refine c_run rfl (.slice (some ⟨gr, 0, none⟩) k k) (fun _ => rfl) (fun b γ W hcl h hb _ => ⟨W, ?_, h.up _ (by decide) (by decide) (by decide)⟩) ?_
      · have c0 := bel_cell (h.bl (closed_not hcl 26 (by kernel_rfl) hb)) x0
        clear x0 x1 y0 y1
        go_simp
      refine c_pure rfl (.int .i64 j) (fun _ => rfl) (fun b γ W h => h.up _ (by decide) (by decide) (by decide)) (fun b γ W _ h _ => by go_simp) ?_
      iterate 3 refine c_pure rfl (.pointer (some ⟨a.gw, 0, none⟩)) (fun _ => rfl) (fun b γ W h => h.up _ (by decide) (by decide) (by decide)) (fun b γ W _ h _ => by go_simp) ?_
      refine c_run rfl (.slice (some ⟨a.gr, 0, none⟩) k k) (fun _ => rfl) (fun b γ W hcl h hb _ => ⟨W, ?_, h.up _ (by decide) (by decide) (by decide)⟩) ?_
      · have c0 := bel_cell (h.bl (closed_not hcl 26 (by kernel_rfl) hb)) x1
        clear x0 x1 y0 y1
        go_simp
      refine c_pure rfl (.int .i64 j) (fun _ => rfl) (fun b γ W h => h.up _ (by decide) (by decide) (by decide)) (fun b γ W _ h _ => by go_simp) ?_
      iterate 2 refine c_pure rfl (.pointer (some ⟨a.gr, j * 2, none⟩)) (fun _ => rfl) (fun b γ W h => h.up _ (by decide) (by decide) (by decide)) (fun b γ W _ h _ => by go_simp) ?_
      refine c_run rfl (.pointer (some ⟨a.gs j, 0, none⟩)) (fun _ => rfl) (fun b γ W hcl h hb _ => ⟨W, ?_, h.up _ (by decide) (by decide) (by decide)⟩) ?_
      · have c0 := bel_cell (h.bl (closed_not hcl 26 (by kernel_rfl) hb)) y0
        clear x0 x1 y0 y1
        go_simp
      refine c_callN rfl (f := 32) #[.pointer (some ⟨a.gs j, 0, none⟩)] (fun n => .pointer (some ⟨n, 0, none⟩)) (fun _ => rfl) (fun b γ W h _ => by go_simp) (fun b γ W' hcl h hb _ => ?_) ?_
      · have h25 := closed_not (j := 25) hcl 26 (by kernel_rfl) hb
        have e22 : Lib.up b 13 22 = b 22 := up_of_ne (by decide)
        have e25 : Lib.up b 13 25 = false := by rw [up_of_ne (by decide), h25]
        have hbl := h.bl h25
        have hn := (HO.out.node j HL.out).later hbl
        refine (MacW.copy_calls (a.gs j) (c.ms j) W' hn.nd.blk (by have := hn.fine.rok.len; omega)).mono ?_
        rintro y w5 ⟨rfl, q1, q2⟩
        have g13 : Lib.upd γ 13 W'.heap.size 13 = W'.heap.size := by simp [Lib.upd]
        have g22 : Lib.upd γ 13 W'.heap.size 22 = γ 22 := by simp [Lib.upd]
        refine ⟨W'.heap.size, rfl, fun _ => hbl.trans (q2.mono hbl.size), fun _ _ => ?_, fun q _ => ?_, fun q => absurd (e25.symm.trans q) Bool.false_ne_true⟩
        · rw [g13]; exact ⟨⟨⟨q1, hn.nd.below.trans (q2.mono hn.nd.below.size), hn.nd.below.size⟩, hn.fine⟩, hbl.size⟩
        · rw [e22] at q; rw [g22]; exact evs_below (h.ev q h25) q2
      iterate 3 refine c_pure rfl (.pointer (some ⟨a.gw, 0, none⟩)) (fun _ => rfl) (fun b γ W h => h.up _ (by decide) (by decide) (by decide)) (fun b γ W _ h _ => by go_simp) ?_
      refine c_run rfl (.slice (some ⟨a.gr, 0, none⟩) k k) (fun _ => rfl) (fun b γ W hcl h hb _ => ⟨W, ?_, h.up _ (by decide) (by decide) (by decide)⟩) ?_
      · have c0 := bel_cell (h.bl (closed_not hcl 26 (by kernel_rfl) hb)) x1
        clear x0 x1 y0 y1
        go_simp
      refine c_pure rfl (.int .i64 j) (fun _ => rfl) (fun b γ W h => h.up _ (by decide) (by decide) (by decide)) (fun b γ W _ h _ => by go_simp) ?_
      refine c_pure rfl (.pointer (some ⟨a.gr, j * 2, none⟩)) (fun _ => rfl) (fun b γ W h => h.up _ (by decide) (by decide) (by decide)) (fun b γ W _ h _ => by go_simp) ?_
      refine c_pure rfl (.pointer (some ⟨a.gr, j * 2 + 1, none⟩)) (fun _ => rfl) (fun b γ W h => h.up _ (by decide) (by decide) (by decide)) (fun b γ W _ h _ => by go_simp) ?_
      refine c_run rfl (a.vs j) (fun _ => rfl) (fun b γ W hcl h hb _ => ⟨W, ?_, h.up _ (by decide) (by decide) (by decide)⟩) ?_
      · have c0 := bel_cell (h.bl (closed_not hcl 26 (by kernel_rfl) hb)) y1
        clear x0 x1 y0 y1
        rw [hv] at c0 ⊢
        go_simp
      simp only [Act.put, List.setIfInBounds_toArray, List.set_cons_zero, List.set_cons_succ]
      refine c_any rfl (fun γ => decV (c.hs j).length (γ 22)) (fun γ γ' hg => by simp only; rw [hg 22 (.inl rfl)]) (fun _ => rfl) (fun b γ W hcl h hb hn => ?_) ?_
      · have h25 := closed_not (j := 25) hcl 26 (by kernel_rfl) hb
        have hbl := h.bl h25
        have e13 : Lib.up b 22 13 = b 13 := up_of_ne (by decide)
        have e25 : Lib.up b 22 25 = false := by rw [up_of_ne (by decide), h25]
        obtain ⟨v', w', r1, r2, r3, r4⟩ := run_app2 (evs_nil W wr.heap.size) (evs_below (HO.out.heard j HL.out) hbl) hbl.size (by simp) (by have := HO.out.short j HL.out; omega)
        rw [List.nil_append] at r2
        have r5 : Below W.heap.size W w' := below_none r3
        obtain ⟨m, rfl⟩ := decV_onto r2
        have g13 : Lib.upd γ 22 m 13 = γ 13 := by simp [Lib.upd]
        have g22 : Lib.upd γ 22 m 22 = m := by simp [Lib.upd]
        refine ⟨m, w', ?_, fun _ => hbl.trans (r5.mono hbl.size), fun q _ => ?_, fun _ _ => ?_, fun q => absurd (e25.symm.trans q) Bool.false_ne_true⟩
        · rw [g22]
          exact exec_app rfl rfl rfl rfl r1
        · rw [e13] at q; rw [g13]; exact ⟨(h.nd q h25).1.later r5, (h.nd q h25).2⟩
        · rw [g22]; exact r2
      refine c_any rfl (fun γ => .agg #[.pointer (some ⟨γ 13, 0, none⟩), decV (c.hs j).length (γ 22)]) (fun γ γ' hg => by simp only; rw [hg 13 (.inr (.one rfl (by decide))), hg 22 (.inr (.one rfl (by decide)))]) (fun _ => rfl) (fun b γ W hcl h hb hn => ⟨γ 23, W, ?_, ?_⟩) ?_
      · rw [show Lib.upd γ 23 (γ 23) = γ by funext j; unfold Lib.upd; split <;> simp_all]
        rcases decV_cases (c.hs j).length (γ 22) with hq | ⟨g9, c9, hq⟩
        · rw [hq]; go_simp
        · rw [hq]; go_simp
      · rw [show Lib.upd γ 23 (γ 23) = γ by funext j; unfold Lib.upd; split <;> simp_all]
        exact h.up _ (by decide) (by decide) (by decide)
      refine c_pure rfl (.pointer (some ⟨gr, j * 2, none⟩)) (fun _ => rfl) (fun b γ W h => h.up _ (by decide) (by decide) (by decide)) (fun b γ W _ h _ => by go_simp) ?_
      refine c_store rfl (fun _ => rfl) (fun b γ W hcl h hb hn => ⟨(W.setCell ⟨gr, j * 2, none⟩ (.pointer (some ⟨γ 13, 0, none⟩))).setCell ⟨gr, j * 2 + 1, none⟩ (decV (c.hs j).length (γ 22)), ?_, ?_⟩) ?_
      · have hbw := HBR.out.below (h.bl hb)
        have z0 : W.cell? ⟨gr, j * 2, none⟩ = some (.pointer (some ⟨gs j, 0, none⟩)) := (hbw.cell _).trans (ncs_m gs vs j k hlt)
        have z1 : W.cell? ⟨gr, j * 2 + 1, none⟩ = some (vs j) := (hbw.cell _).trans (ncs_v gs vs j k hlt)
        have z2 := hbw.frozen (j * 2)
        have z3 := hbw.frozen (j * 2 + 1)
        clear x0 x1 y0 y1
        rcases decV_cases (c.hs j).length (γ 22) with hq | ⟨g9, c9, hq⟩
        · rw [hq]; go_simp
        · rw [hq]; go_simp
      · have h23 : b 23 = true := hn 23 (by decide)
        have h13 : b 13 = true := closed_reach hcl 26 23 13 (by kernel_rfl) h23
        have h22 : b 22 = true := closed_reach hcl 26 23 22 (by kernel_rfl) h23
        have e25 : Lib.up b 25 25 = true := up_at _ _
        refine ⟨fun q => absurd (e25.symm.trans q) Bool.noConfusion, fun _ q => absurd (e25.symm.trans q) Bool.noConfusion, fun _ q => absurd (e25.symm.trans q) Bool.noConfusion, fun _ => ?_⟩
        have hgr : a1.gr = gr := by rw [HA1.out]
        have := H6.out.put (h.bl hb) H.out.below.size HL.out (h.nd h13 hb).1 (h.nd h13 hb).2 (h.ev h22 hb)
        rw [← hgr]
        exact this
      refine t_end ?_
      intro bq gq w9 hall hS
      simp only [Act.put, List.setIfInBounds_toArray, List.set_cons_zero, List.set_cons_succ]
      have hq := hS.2.fin (hall 25 (by decide))
      rw [HA1.out] at hq
      generalize decV (c.hs j).length (gq 22) = v9 at hq ⊢
      generalize gq 13 = g13 at hq ⊢
      have H9 := hid hq
      clear hq hS hall
      go_wp2_with fail
      exact ⟨⟨j + 1, _, _, by omega, rfl, H9.out⟩, by simp [intOf]; omega⟩
    · have hjk : j = k := by omega
      go_wp2_with fail
      go_ret
      have hd := H6.out
      rw [hjk, HK.out] at hd
      have hw := hd.done H.out.below H.out.pos H.out.most H.out.short H.out.ll
      exact ⟨a1, by rw [HA1.out]; rfl, hw, hd.bl⟩
end Go.Proofs.YtpkpnaedacefaaaGreat.WireQ

/- Two rows of events, alike; the second one need not begin at its block's head. -/
namespace Go.Proofs.YtpkpnaedacefaaaGreat.WireQ
set_option linter.unusedVariables false
set_option linter.unusedSimpArgs false
open Go Go.RowKit Go.Proofs.YtpkpnaedacefaaaGreat.Lib Go.Proofs.YtpkpnaedacefaaaGreat.Bits Go.Proofs.YtpkpnaedacefaaaGreat.BitsW Go.Proofs.YtpkpnaedacefaaaGreat.StuffW Go.Proofs.YtpkpnaedacefaaaGreat.Frame Go.Proofs.YtpkpnaedacefaaaGreat.FrameW Go.Proofs.YtpkpnaedacefaaaGreat.Code Go.Proofs.YtpkpnaedacefaaaGreat.CodeW Go.Proofs.YtpkpnaedacefaaaGreat.Mac Go.Proofs.YtpkpnaedacefaaaGreat.MacW Go.Proofs.YtpkpnaedacefaaaGreat.MacL Go.Proofs.YtpkpnaedacefaaaGreat.PrintMore
attribute [local go_sem] max2_int min2_int max_two min_two
attribute [local go_sem high] eqA24
attribute [local go_sem high] WireL.eqA34
open WireL (ec_len ec_at)
/-- Two rows of events, alike. -/
structure Twq (w W : World) (a1 a2 : Option Addr) (L : List Ev) : Prop where
  one : ∀ j x, L[j]? = some x → ∃ g, a1 = some ⟨g, 0, none⟩ ∧ ∀ i, i < 6 → W.cell? ⟨g, j * 6 + i, none⟩ = (ec x)[i]?
  two : ∀ j x, L[j]? = some x → ∃ g o, a2 = some ⟨g, o, none⟩ ∧ ∀ i, i < 6 → W.cell? ⟨g, o + j * 6 + i, none⟩ = (ec x)[i]?
  below : Below w.heap.size w W
theorem Twq.drew {w W : World} {a1 a2 : Option Addr} {L : List Ev} (h : Twq w W a1 a2 L) : Twq w W.drew a1 a2 L := ⟨h.one, h.two, h.below.drew⟩
set_option maxRecDepth 100000 in
set_option maxHeartbeats 6400000 in
theorem same_h (w : World) (v1 v2 : Value) (b1 b2 : Nat) (L : List Ev) (h1 : Evs w b1 v1 L) (h2 : Hrow w b2 v2 L) (hL : L.length ≤ 1000) :
    Calls Tryz.prog 10 #[v1, v2] w fun e w' => e = .returned (.bool true) ∧ Below w.heap.size w w' := by
  obtain ⟨a1, k1, rfl, g1⟩ := evs_slice h1
  obtain ⟨a2, k2, rfl, g2⟩ : ∃ a2 k2, v2 = .slice a2 L.length k2 ∧ ∀ j x, L[j]? = some x → ∃ g o, a2 = some ⟨g, o, none⟩ ∧ ∀ i, i < 6 → w.cell? ⟨g, o + j * 6 + i, none⟩ = (ec x)[i]? := by
    rcases h2 with ⟨rfl, rfl⟩ | ⟨g, o, cap, rfl, _, _, _, h5⟩
    · exact ⟨none, 0, rfl, fun j x hx => by simp at hx⟩
    · refine ⟨_, cap, rfl, fun j x hx => ⟨g, o, rfl, fun i hi => ?_⟩⟩
      have hs : ∃ u, (ec x)[i]? = some u := ⟨(ec x)[i]'(by rw [ec_len]; exact hi), List.getElem?_eq_getElem _⟩
      obtain ⟨u, hu⟩ := hs
      rw [hu, Nat.add_assoc]
      exact h5 _ u ((ec_at hx i hi).trans hu)
  have HH := hid (show Twq w w a1 a2 L by
    refine ⟨fun j x hx => ?_, fun j x hx => ?_, Below.refl _ _⟩
    · obtain ⟨g, rfl, _, _⟩ := g1 (j * 6 + 0) _ (ec_at hx 0 (by decide))
      refine ⟨g, rfl, fun i hi => ?_⟩
      have hs : ∃ u, (ec x)[i]? = some u := ⟨(ec x)[i]'(by rw [ec_len]; exact hi), List.getElem?_eq_getElem _⟩
      obtain ⟨u, hu⟩ := hs
      obtain ⟨g', e, _, hc⟩ := g1 (j * 6 + i) u ((ec_at hx i hi).trans hu)
      injection e with e
      injection e with e
      subst e
      rw [hc, hu]
    · exact g2 j x hx)
  clear g1 g2 h1 h2
  go_enter Tryz.func10, Tryz.ntmps10
  go_wp2_with fail
  obtain ⟨n, hn⟩ : ∃ n, n = L.length := ⟨_, rfl⟩
  rw [← hn] at hL ⊢
  have HN := hid hn
  clear hn
  go_loopw [5] (fun i wr => ∃ j : Nat, j ≤ n ∧ i = .int .i64 j ∧ Twq w wr a1 a2 L) (fun i _ => n - (intOf i).toNat)
  case atStart => exact ⟨0, Nat.zero_le _, rfl, HH.out⟩
  case round =>
    clear HH
    obtain ⟨j, hj, rfl, HX⟩ := hrel
    have H6 := hid HX
    clear HX
    by_cases hlt : j < n
    · have u0 : ((j : Int) < n) = True := eq_true (by omega)
      have u1 : decide ((j : Int) < n) = true := decide_eq_true (by omega)
      have u2 : IntKind.i64.wrap ((j : Int) + 1) = ((j + 1 : Nat) : Int) := by rw [IntKind.wrap_i64]; omega
      have u3 : (j < n) = True := eq_true hlt
      obtain ⟨x, hx⟩ : ∃ x, L[j]? = some x := ⟨_, List.getElem?_eq_getElem (by rw [← HN.out]; exact hlt)⟩
      obtain ⟨p1, rfl, q1⟩ := H6.out.one j x hx
      obtain ⟨p2, o2, rfl, q2⟩ := H6.out.two j x hx
      clear q1 q2
      go_wp2_with fail
      refine region_text (by kernel_rfl) (by kernel_rfl) (fun _ _ W => Twq w W (some ⟨p1, 0, none⟩) (some ⟨p2, o2, none⟩) L) H6.out.drew ?_
      iterate 9 ((try simp only [Act.put, List.setIfInBounds_toArray, List.set_cons_zero, List.set_cons_succ]); (refine t_pure ?_ (fun _ => rfl) (fun b γ W h => h) (fun b γ W h _ => ?_) ?_; rotate_left; · (obtain ⟨p1', e1, r1⟩ := h.one j x hx
                                                                                                                                                                                                              obtain ⟨p2', o2', e2, r2⟩ := h.two j x hx
                                                                                                                                                                                                              injection e1 with e1; injection e1 with e1; subst e1
                                                                                                                                                                                                              injection e2 with e2; injection e2 with e2 e3; subst e2 e3
                                                                                                                                                                                                              have x0 := r1 0 (by decide); have x1 := r1 1 (by decide); have x2 := r1 2 (by decide); have x3 := r1 3 (by decide); have x4 := r1 4 (by decide); have x5 := r1 5 (by decide)
                                                                                                                                                                                                              have y0 := r2 0 (by decide); have y1 := r2 1 (by decide); have y2 := r2 2 (by decide); have y3 := r2 3 (by decide); have y4 := r2 4 (by decide); have y5 := r2 5 (by decide)
                                                                                                                                                                                                              simp only [ec, List.getElem?_cons_zero, List.getElem?_cons_succ, Nat.add_zero] at x0 x1 x2 x3 x4 x5 y0 y1 y2 y3 y4 y5
                                                                                                                                                                                                              clear r1 r2 h
                                                                                                                                                                                                              go_simp; first | rfl | (simp; done))))
      refine t_end ?_
      intro bq gq w2 hall h2
      (try simp only [Act.put, List.setIfInBounds_toArray, List.set_cons_zero, List.set_cons_succ])
      have H2 := hid h2
      clear hall h2 H6
      go_wp2_with fail
      go_roundw
      case rel => exact ⟨j + 1, by omega, by go_num, H2.out⟩
      case measure => simp [intOf]; omega
    · obtain rfl : j = n := by omega
      clear hlt hj
      go_wp2_with fail
      go_ret
      exact ⟨rfl, H6.out.below⟩
end Go.Proofs.YtpkpnaedacefaaaGreat.WireQ

/- A wire and the document's wire side by side. -/
namespace Go.Proofs.YtpkpnaedacefaaaGreat.WireQ
set_option linter.unusedVariables false
set_option linter.unusedSimpArgs false
open Go Go.RowKit Go.Proofs.YtpkpnaedacefaaaGreat.Lib Go.Proofs.YtpkpnaedacefaaaGreat.Bits Go.Proofs.YtpkpnaedacefaaaGreat.BitsW Go.Proofs.YtpkpnaedacefaaaGreat.StuffW Go.Proofs.YtpkpnaedacefaaaGreat.Frame Go.Proofs.YtpkpnaedacefaaaGreat.FrameW Go.Proofs.YtpkpnaedacefaaaGreat.Code Go.Proofs.YtpkpnaedacefaaaGreat.CodeW Go.Proofs.YtpkpnaedacefaaaGreat.CodeL Go.Proofs.YtpkpnaedacefaaaGreat.Mac Go.Proofs.YtpkpnaedacefaaaGreat.MacW Go.Proofs.YtpkpnaedacefaaaGreat.MacL Go.Proofs.YtpkpnaedacefaaaGreat.RefW Go.Proofs.YtpkpnaedacefaaaGreat.MacR Go.Proofs.YtpkpnaedacefaaaGreat.WireN Go.Proofs.YtpkpnaedacefaaaGreat.WireW Go.Proofs.YtpkpnaedacefaaaGreat.BusW Go.Proofs.YtpkpnaedacefaaaGreat.PrintMore
/-- A step's box. -/
abbrev SpT : TypeId := 37
def Kb (W W' : World) : Prop := ∀ p cs, Blk W p SpT cs → Blk W' p SpT cs
theorem Kb.refl (W : World) : Kb W W := fun _ _ h => h
theorem Kb.trans {a b c : World} (h : Kb a b) (k : Kb b c) : Kb a c := fun p cs q => k p cs (h p cs q)
theorem Kb.of_below {W W' : World} (k : Below W.heap.size W W') : Kb W W' := fun _ _ h => h.below k
theorem Kb.of_kp {F : Nat → Prop} {W W' : World} (k : Kp F W W') (hF : ∀ i, F i → ∃ T, T ≠ SpT ∧ Ty W i T) : Kb W W' := fun p cs h => blk_kp h k (fun e => by
  obtain ⟨T, h1, h2⟩ := hF p e
  exact h2.ne (ty_blk h) h1 rfl)
theorem ty_u8 {W : World} {k : Nat} (h : U8 W k) : Ty W k 5 := h
theorem WM.tys {w W : World} {B : Nat} {a : Ga} {c : Gc} (h : WM w W B a c) {k : Nat} (hk : a.foot B c.n W k) : ∃ T, T ∈ [63, 66, 86, 84, EvT, 5] ∧ Ty W k T ∧ (T = EvT → ∃ i, i < c.n ∧ (a.vs i).ownBlock = some k) := by
  rcases hk with rfl | rfl | rfl | ⟨i, hi, rfl⟩ | ⟨i, hi, e⟩ | ⟨_, e2⟩
  · exact ⟨_, by simp, ty_blk h.top, fun e => absurd e (by decide)⟩
  · exact ⟨_, by simp, ty_blk h.row, fun e => absurd e (by decide)⟩
  · exact ⟨_, by simp, ty_blk h.bus.2.1, fun e => absurd e (by decide)⟩
  · exact ⟨84, by simp, ty_blk (h.node i hi).nd.blk, fun e => absurd e (by decide)⟩
  · exact ⟨_, by simp, ty_owns (h.heard i hi) e, fun _ => ⟨i, hi, e⟩⟩
  · exact ⟨_, by simp, ty_u8 e2, fun e => absurd e (by decide)⟩
theorem RM.tys {W : World} {D : Nat} {q : Qa} {r : Rw} (h : RM W D q r) {k : Nat} (hk : q.own r.n k) : ∃ T, T ∈ [WdT, PTr, EsT, QT, RT, EvT] ∧ Ty W k T ∧ (T = EvT → ∃ i, i < r.n ∧ (q.es i).ownBlock = some k) := by
  rcases hk with rfl | rfl | rfl | ⟨i, hi, rfl⟩ | ⟨i, hi, rfl⟩ | ⟨i, hi, e⟩
  · exact ⟨_, by simp, ty_blk h.top, fun e => absurd e (by decide)⟩
  · exact ⟨_, by simp, h.row.ty, fun e => absurd e (by decide)⟩
  · exact ⟨_, by simp, h.hrow.ty, fun e => absurd e (by decide)⟩
  · exact ⟨_, by simp, ty_blk (h.node i hi), fun e => absurd e (by decide)⟩
  · exact ⟨_, by simp, ty_blk (h.rd i hi), fun e => absurd e (by decide)⟩
  · exact ⟨_, by simp, ty_h (h.heard i hi) e, fun _ => ⟨i, hi, e⟩⟩
theorem ty_same {W : World} {k : Nat} {T T' : TypeId} (h : Ty W k T) (h' : Ty W k T') : T = T' := by
  by_cases e : T = T'
  · exact e
  · exact absurd rfl (h.ne h' e)
/-- Nothing of the one's is the other's. -/
theorem apart_of {w W : World} {B D : Nat} {a : Ga} {c : Gc} {q : Qa} {r : Rw} (h : WM w W B a c) (h' : RM W D q r) (hd : ∀ i j k, i < c.n → j < r.n → (a.vs i).ownBlock = some k → (q.es j).ownBlock ≠ some k) {k : Nat} (hk : a.foot B c.n W k) : ¬ q.own r.n k := by
  intro hq
  obtain ⟨T, t1, t2, t3⟩ := WM.tys h hk
  obtain ⟨T', s1, s2, s3⟩ := h'.tys hq
  have := ty_same t2 s2
  subst this
  have he : T = EvT := by
    revert t1 s1
    generalize T = T0
    simp only [List.mem_cons, List.not_mem_nil, or_false]
    rintro (rfl | rfl | rfl | rfl | rfl | rfl) e <;> first | rfl | (revert e; decide)
  obtain ⟨i, hi, ei⟩ := t3 he
  obtain ⟨j, hj, ej⟩ := s3 he
  exact hd i j k hi hj ei ej
structure Pq (w W : World) (B D : Nat) (a : Ga) (q : Qa) (c : Gc) (r : Rw) : Prop where
  wm : WM w W B a c
  rm : RM W D q r
  dis : ∀ i j k, i < c.n → j < r.n → (a.vs i).ownBlock = some k → (q.es j).ownBlock ≠ some k
  short : ∀ i, i < c.n → (c.hs i).length ≤ 100
  shr : ∀ i, i < r.n → (r.hs i).length ≤ 100
  le : w.heap.size ≤ D
def Pr (w W : World) (B D g gw : Nat) (c : Gc) (r : Rw) : Prop := ∃ a q, a.gw = g ∧ q.gw = gw ∧ Pq w W B D a q c r
variable {w W W' : World} {B D g gw : Nat} {a : Ga} {q : Qa} {c : Gc} {r : Rw}
theorem Pq.later (h : Pq w W B D a q c r) (k : Below W.heap.size W W') : Pq w W' B D a q c r := ⟨h.wm.new k, h.rm.below k, h.dis, h.short, h.shr, h.le⟩
theorem Pq.drew (h : Pq w W B D a q c r) : Pq w W.drew B D a q c r := h.later (Below.refl _ _).drew
theorem Pq.big (h : Pq w W B D a q c r) : D ≤ W.heap.size := Nat.le_trans h.rm.lw (Nat.le_of_lt h.rm.top.lt)
theorem Pq.apart (h : Pq w W B D a q c r) {k : Nat} (hk : a.foot B c.n W k) : ¬ q.own r.n k := apart_of h.wm h.rm h.dis hk
theorem Pq.wi (h : Pq w W B D a q c r) : Wi w W B a.gw (a.foot B c.n W) c := ⟨⟨a, h.wm, rfl, fun _ hk => hk⟩, h.short⟩
theorem Pr.later (h : Pr w W B D g gw c r) (k : Below W.heap.size W W') : Pr w W' B D g gw c r := by
  obtain ⟨a, q, h1, h2, h3⟩ := h
  exact ⟨a, q, h1, h2, h3.later k⟩
theorem Pr.drew (h : Pr w W B D g gw c r) : Pr w W.drew B D g gw c r := h.later (Below.refl _ _).drew
theorem Pr.below (h : Pr w W B D g gw c r) : Below w.heap.size w W := by obtain ⟨a, q, _, _, h⟩ := h; exact h.wm.below
/-- The wire has gone on. -/
theorem Pq.left {c' : Gc} {F' : Nat → Prop} (h : Pq w W B D a q c r) (k1 : Wi w W' B a.gw F' c') (k2 : Kp (a.foot B c.n W) W W') (k3 : ∀ k, F' k → a.foot B c.n W k ∨ W.heap.size ≤ k) :
    (∃ a' : Ga, a'.gw = a.gw ∧ Pq w W' B D a' q c' r) ∧ Kb W W' := by
  obtain ⟨a', m1, m2, m3⟩ := k1.ex
  refine ⟨⟨a', m2, m1, h.rm.kp k2 (fun i hi e => h.apart e hi), fun i j k hi hj e e' => ?_, k1.short, h.shr, h.le⟩, Kb.of_kp k2 (fun i hi => ?_)⟩
  · have ho : q.own r.n k := .inr (.inr (.inr (.inr (.inr ⟨j, hj, e'⟩))))
    rcases k3 k (m3 k (.inr (.inr (.inr (.inr (.inl ⟨i, hi, e⟩)))))) with f | f
    · exact h.apart f ho
    · have := (h.rm.own_lt ho).2; omega
  · obtain ⟨T, t1, t2, _⟩ := WM.tys h.wm hi
    refine ⟨T, fun e => ?_, t2⟩
    subst e
    revert t1
    decide
/-- The document's has. -/
theorem Pq.right {r' : Rw} {q' : Qa} (h : Pq w W B D a q c r) (hn : r'.n = r.n) (hsh : ∀ i, i < r'.n → (r'.hs i).length ≤ 100) (k1 : RM W' D q' r') (k2 : Kp (q.own r.n) W W') (k3 : ∀ k, q'.own r.n k → q.own r.n k ∨ W.heap.size ≤ k) : Pq w W' B D a q' c r' ∧ Kb W W' := by
  refine ⟨⟨h.wm.kp k2 (fun i e => h.apart e) (fun i hi => Nat.le_trans h.le (h.rm.own_lt hi).1), k1, fun i j k hi hj e e' => ?_, h.short, hsh, h.le⟩, Kb.of_kp k2 (fun i hi => ?_)⟩
  · have hf : a.foot B c.n W k := .inr (.inr (.inr (.inr (.inl ⟨i, hi, e⟩))))
    rcases k3 k (.inr (.inr (.inr (.inr (.inr ⟨j, hn ▸ hj, e'⟩))))) with f | f
    · exact h.apart hf f
    · have := (h.wm.foot_le hf).2; omega
  · obtain ⟨T, t1, t2, _⟩ := h.rm.tys hi
    refine ⟨T, fun e => ?_, t2⟩
    subst e
    revert t1
    decide
/-- A row of events beside both. -/
structure Pv (w W : World) (B D g gw : Nat) (c : Gc) (r : Rw) (v : Value) (L : List Ev) : Prop where
  out : ∃ a q, a.gw = g ∧ q.gw = gw ∧ Pq w W B D a q c r ∧ ∀ j k, j < r.n → v.ownBlock = some k → (q.es j).ownBlock ≠ some k
  ev : ∃ b, Evs W b v L
theorem pr_ask (h : Pr w W B D g gw c r) (j : Nat) (hj : j < c.n) (f : Fm) (hf : f.wf) : Calls Tryz.prog 9 #[.pointer (some ⟨g, 0, none⟩), .int .i64 j, fv f] W fun e w' =>
    e = .returned (.int .i64 ((c.ms j).ask f).2) ∧ Pr w w' B D g gw (c.ask j f) r ∧ Kb W w' := by
  obtain ⟨a, q, rfl, rfl, h⟩ := h
  refine (wi_ask h.wi j hj f hf).mono ?_
  rintro e w' ⟨F', k1, k2, k3, k4⟩
  obtain ⟨⟨a', m1, m2⟩, m3⟩ := h.left k2 k3 k4
  exact ⟨k1, ⟨a', q, m1, rfl, m2⟩, m3⟩
theorem pr_ask_out (h : Pr w W B D g gw c r) (j : Int) (hj : j < 0 ∨ (c.n : Int) ≤ j) (f : Fm) : Calls Tryz.prog 9 #[.pointer (some ⟨g, 0, none⟩), .int .i64 j, fv f] W fun e w' =>
    e = .returned (.int .i64 141) ∧ Pr w w' B D g gw c r ∧ Kb W w' := by
  obtain ⟨a, q, rfl, rfl, h⟩ := h
  refine (wi_ask_out h.wi j hj f).mono ?_
  rintro e w' ⟨k1, k2, k3⟩
  exact ⟨k1, ⟨a, q, rfl, rfl, h.later k3⟩, Kb.of_below k3⟩
theorem pq_ask (h : Pq w W B D a q c r) (j : Nat) (hj : j < r.n) (f : Fm) : Calls Tryz.prog 8 #[.pointer (some ⟨q.p j, 0, none⟩), fv f] W fun e w' =>
    e = .returned (.int .i64 ((r.qs j).ask f).2) ∧ Pr w w' B D a.gw q.gw c (r.ask j f) ∧ Kb W w' := by
  have hn := h.rm.node j hj
  have hr := h.rm.rd j hj
  refine (qask_calls (q.p j) (q.hr j) (r.qs j) f W hn).mono ?_
  rintro e w' ⟨k1, k2⟩
  have hq := qp_here hr (rd_ne hn hr) k2 (ask_r (r.qs j) f)
  have hm := h.rm.node_at (i := j) hj h.big hq
  obtain ⟨m1, m2⟩ := h.right (r' := r.ask j f) rfl h.shr hm ((Kp.of_g2 hq.g2).mono (fun k e => by
    rcases e with e | e
    · exact .inr (.inr (.inr (.inl ⟨j, hj, e⟩)))
    · exact .inr (.inr (.inr (.inr (.inl ⟨j, hj, e⟩)))))) (fun k e => own_hr hj (.inl rfl) e)
  exact ⟨k1, ⟨a, { q with hr := WireW.upd q.hr j (q.hr j) }, rfl, rfl, m1⟩, m2⟩
theorem pr_step (h : Pr w W B D g gw c r) (flip : Bool) (hn : c.bn ≤ 1000000) : Calls Tryz.prog 11 #[.pointer (some ⟨g, 0, none⟩), .bool flip] W fun e w' =>
    ∃ v, e = .returned v ∧ Pv w w' B D g gw (c.step flip) r v (c.evs flip) ∧ Kb W w' := by
  obtain ⟨a, q, rfl, rfl, h⟩ := h
  refine (wi_step h.wi flip hn).mono ?_
  rintro e w' ⟨v, F', k1, k2, k3, k4, k5, k6⟩
  obtain ⟨⟨a', m1, m2⟩, m3⟩ := h.left k2 k4 k5
  refine ⟨v, k1, ⟨⟨a', q, m1, rfl, m2, fun j k hj e e' => ?_⟩, ⟨_, k3⟩⟩, m3⟩
  have := (owns_lt k3 e).1
  have := (h.rm.own_lt (k := k) (.inr (.inr (.inr (.inr (.inr ⟨j, hj, e'⟩)))))).2
  omega
theorem pr_rstep {v : Value} {L : List Ev} (h : Pv w W B D g gw c r v L) (hb : ∀ i, i < r.n → QS (r.qs i)) (ht : r.tr.length ≤ 8000) (flip : Bool) : Calls Tryz.prog 12 #[.pointer (some ⟨gw, 0, none⟩), .bool flip] W fun e w' =>
    ∃ v' b b', e = .returned v' ∧ Pr w w' B D g gw c (r.step flip) ∧ Evs w' b v L ∧ Evs w' b' v' (r.evs flip) ∧ Kb W w' := by
  obtain ⟨⟨a, q, rfl, rfl, h, hv⟩, b, hev⟩ := h
  refine (rstep_calls h.rm flip h.big hb h.shr ht).mono ?_
  rintro e w' ⟨v', q', o, k1, rfl, k2⟩
  obtain ⟨m1, m2⟩ := h.right (r' := r.step flip) rfl k2.short k2.rm k2.kp k2.fp
  refine ⟨v', b, _, k1, ⟨a, q', rfl, k2.gw, m1⟩, owns_kp hev k2.kp (fun i e e' => ?_), k2.out, m2⟩
  obtain ⟨j, hj, ej⟩ := h.rm.own_ev hev e e'
  exact hv j i hj e ej
end Go.Proofs.YtpkpnaedacefaaaGreat.WireQ

namespace Go.Proofs.YtpkpnaedacefaaaGreat.WireQ
set_option linter.unusedVariables false
set_option linter.unusedSimpArgs false
open Go Go.RowKit Go.Proofs.YtpkpnaedacefaaaGreat.Lib Go.Proofs.YtpkpnaedacefaaaGreat.Bits Go.Proofs.YtpkpnaedacefaaaGreat.BitsW Go.Proofs.YtpkpnaedacefaaaGreat.StuffW Go.Proofs.YtpkpnaedacefaaaGreat.Frame Go.Proofs.YtpkpnaedacefaaaGreat.FrameW Go.Proofs.YtpkpnaedacefaaaGreat.Code Go.Proofs.YtpkpnaedacefaaaGreat.CodeW Go.Proofs.YtpkpnaedacefaaaGreat.CodeL Go.Proofs.YtpkpnaedacefaaaGreat.Mac Go.Proofs.YtpkpnaedacefaaaGreat.MacW Go.Proofs.YtpkpnaedacefaaaGreat.MacL Go.Proofs.YtpkpnaedacefaaaGreat.RefW Go.Proofs.YtpkpnaedacefaaaGreat.MacR Go.Proofs.YtpkpnaedacefaaaGreat.WireN Go.Proofs.YtpkpnaedacefaaaGreat.WireW Go.Proofs.YtpkpnaedacefaaaGreat.BusW Go.Proofs.YtpkpnaedacefaaaGreat.PrintMore
attribute [local go_sem] max2_int min2_int max_two min_two
attribute [local go_sem] MacL.field_got MacL.field_sent
attribute [local go_sem high] MacR.eqA39
structure SE where
  who : Int
  bits : Int
  flip : Int
  f : Fm
def sc (s : SE) : List Value := [.int .i64 s.who, .int .i64 s.bits, .int .i64 s.flip, .bool s.f.e, .int .u32 s.f.i, .bool s.f.r, .string s.f.d]
/-- One step in memory. -/
structure Ce (W : World) (b o j : Nat) (s : SE) : Prop where
  x0 : W.cell? ⟨b, o + j * 7, none⟩ = some (.int .i64 s.who)
  x1 : W.cell? ⟨b, o + j * 7 + 1, none⟩ = some (.int .i64 s.bits)
  x2 : W.cell? ⟨b, o + j * 7 + 2, none⟩ = some (.int .i64 s.flip)
  x3 : W.cell? ⟨b, o + j * 7 + 3, none⟩ = some (.bool s.f.e)
  x4 : W.cell? ⟨b, o + j * 7 + 4, none⟩ = some (.int .u32 s.f.i)
  x5 : W.cell? ⟨b, o + j * 7 + 5, none⟩ = some (.bool s.f.r)
  x6 : W.cell? ⟨b, o + j * 7 + 6, none⟩ = some (.string s.f.d)
theorem Ce.at {w W : World} {b o j : Nat} {s : SE} (h : Ce w b o j s) (hb : Below w.heap.size w W) : Ce W b o j s := by
  have k : ∀ i v, w.cell? ⟨b, i, none⟩ = some v → W.cell? ⟨b, i, none⟩ = some v := fun i v h => (hb.cell (World.block_lt_of_cell? w _ h)).trans h
  exact ⟨k _ _ h.x0, k _ _ h.x1, k _ _ h.x2, k _ _ h.x3, k _ _ h.x4, k _ _ h.x5, k _ _ h.x6⟩
/-- The steps, as they came. -/
structure Ste (w : World) (A : Option Addr) (n : Nat) (S : Nat → SE) : Prop where
  get : ∀ j, j < n → ∃ b o, A = some ⟨b, o, none⟩ ∧ Ce w b o j (S j)
  wf : ∀ j, j < n → (S j).f.wf
/-- Both wires, so many bits long; a step's box. -/
structure Ps (w W : World) (B D g gw k : Nat) : Prop where
  ex : ∃ c r k', Pr w W B D g gw c r ∧ Bw c r k' ∧ c.bn ≤ k' ∧ k' ≤ k
theorem Ps.below {w W : World} {B D g gw k : Nat} (h : Ps w W B D g gw k) : Below w.heap.size w W := by obtain ⟨c, r, k', h, _⟩ := h.ex; exact h.below
/-- The region in which the document's node is asked. -/
structure T16 (w w5 : World) (B D g gw : Nat) (c : Gc) (r' : Rw) (b : Nat → Bool) (W : World) : Prop where
  fst : b 10 = false → W = w5
  snd : b 10 = true → Pr w W B D g gw c r' ∧ Kb w5 W
theorem T16.up {w w5 : World} {B D g gw : Nat} {c : Gc} {r' : Rw} {b : Nat → Bool} {W : World} (h : T16 w w5 B D g gw c r' b W) (i : Nat) (h1 : i ≠ 10) : T16 w w5 B D g gw c r' (up b i) W := by
  have e1 : Lib.up b i 10 = b 10 := up_of_ne (fun e => h1 e.symm)
  exact ⟨by rw [e1]; exact h.fst, by rw [e1]; exact h.snd⟩
/-- The region of a bit. -/
structure T22 (w w5 : World) (B D g gw : Nat) (c c' : Gc) (r r' : Rw) (L : List Ev) (b : Nat → Bool) (γ : Nat → Nat) (W : World) : Prop where
  kb : Kb w5 W
  s0 : b 5 = false → Pr w W B D g gw c r
  s1 : b 5 = true → b 11 = false → Pv w W B D g gw c' r (decV L.length (γ 5)) L
  s2 : b 11 = true → Pr w W B D g gw c' r' ∧ (∃ b, Evs W b (decV L.length (γ 5)) L) ∧ ∃ b, Evs W b (decV L.length (γ 11)) L
theorem T22.up {w w5 : World} {B D g gw : Nat} {c c' : Gc} {r r' : Rw} {L : List Ev} {b : Nat → Bool} {γ : Nat → Nat} {W : World} (h : T22 w w5 B D g gw c c' r r' L b γ W) (i : Nat) (h1 : i ≠ 5) (h2 : i ≠ 11) : T22 w w5 B D g gw c c' r r' L (up b i) γ W := by
  have e1 : Lib.up b i 5 = b 5 := up_of_ne (fun e => h1 e.symm)
  have e2 : Lib.up b i 11 = b 11 := up_of_ne (fun e => h2 e.symm)
  exact ⟨h.kb, by rw [e1]; exact h.s0, by rw [e1, e2]; exact h.s1, by rw [e2]; exact h.s2⟩
/-- The region that looks at a node. -/
structure T27 (w5 : World) (L : List Ev) (b : Nat → Bool) (γ : Nat → Nat) (W : World) : Prop where
  bl : Below w5.heap.size w5 W
  ev : b 2 = true → Evs W w5.heap.size (decV L.length (γ 2)) L
theorem T27.up {w5 : World} {L : List Ev} {b : Nat → Bool} {γ : Nat → Nat} {W : World} (h : T27 w5 L b γ W) (i : Nat) (h1 : i ≠ 2) : T27 w5 L (up b i) γ W := by
  have e1 : Lib.up b i 2 = b 2 := up_of_ne (fun e => h1 e.symm)
  exact ⟨h.bl, by rw [e1]; exact h.ev⟩
theorem T27.later {w5 : World} {L : List Ev} {b : Nat → Bool} {γ : Nat → Nat} {W W' : World} (h : T27 w5 L b γ W) (k : Below W.heap.size W W') : T27 w5 L b γ W' := ⟨h.bl.trans (k.mono h.bl.size), fun e => evs_below (h.ev e) k⟩
set_option maxRecDepth 100000 in
set_option maxHeartbeats 25600000 in
theorem wplays_calls (n : Int) (A : Option Addr) (len cap : Nat) (S : Nat → SE) (w : World) (hS : Ste w A len S) : Calls Tryz.prog 3 #[.int .i64 n, .slice A len cap] w fun e w' => e = .returned (.bool true) ∧ Below w.heap.size w w' := by
  have HS := hid hS
  clear hS
  go_enter Tryz.func3, Tryz.ntmps3
  go_wp2_with fail
  with_reducible refine (WireL.known_calls _).mono ?_
  rintro y w1 ⟨rfl, hb⟩
  by_cases h10 : 10 < len
  · have u0 : (10 < (len : Int)) = True := eq_true (by omega)
    have u1 : decide (10 < (len : Int)) = true := decide_eq_true (by omega)
    have HB := hid hb
    clear hb h10
    go_wp2_with fail
    go_ret
    exact ⟨rfl, HB.out⟩
  · have u0 : (10 < (len : Int)) = False := eq_false (by omega)
    have u1 : decide (10 < (len : Int)) = false := decide_eq_false (by omega)
    have HB := hid hb
    have hn : len ≤ 10 := by omega
    have HN := hid hn
    clear hb h10 hn
    go_wp2_with fail
    with_reducible refine (wi_new n HB.out).mono ?_
    rintro y w2 ⟨g, rfl, hwi, hb2⟩
    have HW := hid hwi
    have HB2 := hid hb2
    clear hwi hb2
    go_wp2_with fail
    with_reducible refine (made_calls n w2).mono ?_
    rintro y w3 ⟨q, rfl, hrm, hb3⟩
    obtain ⟨a, hwm, rfl, -⟩ := HW.out.ex
    have hd : ∀ i j k, i < (Gc.new (kOf n)).n → j < (Rw.new (kOf n)).n → (a.vs i).ownBlock = some k → (q.es j).ownBlock ≠ some k := fun i j k hi hj e e' => by
      have := (owns_lt (hwm.heard i hi) e).2
      have := ((hrm.heard j hj).lt e').1
      omega
    have H3 := hid (show Pq w w3 w1.heap.size w2.heap.size a q (Gc.new (kOf n)) (Rw.new (kOf n)) from
      ⟨hwm.new hb3, hrm, hd, fun i _ => Nat.zero_le _, fun i _ => Nat.zero_le _, by have := HB.out.size; have := HB2.out.size; omega⟩)
    have x0 : w3.cell? ⟨q.gw, 0, none⟩ = some (.slice (some ⟨q.gm, 0, none⟩) (kOf n) q.cm) := hrm.top.cell 0
    have HBW := hid (bw_new (kOf n))
    clear hwm hrm hb3 HW HB2 hd HB
    generalize w1.heap.size = B at H3
    generalize w2.heap.size = D at H3
    generalize kOf n = k at H3 x0 HBW
    go_wp2_with fail
    refine region_text (by kernel_rfl) (by kernel_rfl) (fun _ _ W => W = w3.drew) rfl ?_
    refine t_pure (.pointer (some ⟨a.gw, 0, none⟩)) (fun _ => rfl) (fun b γ W h => h) (fun b γ W h _ => by go_simp) ?_
    refine t_call (.int .i64 k) (fun _ => rfl) (f := 7) (args := #[.pointer (some ⟨a.gw, 0, none⟩)]) (fun b γ W h _ => by go_simp) (fun b γ W h hb => ?_) ?_
    · subst h
      exact (len_wire H3.out.wm.drew).mono fun e w' ⟨k1, k2⟩ => ⟨k1, k2⟩
    iterate 2 refine t_pure (.pointer (some ⟨q.gw, 0, none⟩)) (fun _ => rfl) (fun b γ W h => h) (fun b γ W h _ => by go_simp) ?_
    refine t_pure (.pointer (some ⟨q.gw, 0, none⟩)) (fun _ => rfl) (fun b γ W h => h) (fun b γ W h _ => by go_simp) ?_
    refine t_pure (.slice (some ⟨q.gm, 0, none⟩) k q.cm) (fun _ => rfl) (fun b γ W h => h) (fun b γ W h _ => by subst h; go_simp) ?_
    refine t_pure (.int .i64 k) (fun _ => rfl) (fun b γ W h => h) (fun b γ W h _ => by go_simp) ?_
    refine t_pure (.bool false) (fun _ => rfl) (fun b γ W h => h) (fun b γ W h _ => by go_simp) ?_
    refine t_end ?_
    intro bq gq w4 hall hS
    simp only [Act.put, List.setIfInBounds_toArray, List.set_cons_zero, List.set_cons_succ]
    subst hS
    have H4 := hid (show Ps w w3.drew B D a.gw q.gw 0 from ⟨_, _, 0, ⟨a, q, rfl, rfl, H3.out.drew⟩, HBW.out, Nat.le_refl _, Nat.le_refl _⟩)
    clear hall H3 HBW x0
    generalize w3.drew = w4 at H4 ⊢
    generalize a.gw = g at H4 ⊢
    generalize q.gw = gw at H4 ⊢
    go_wp2_with fail
    go_loopw [7, 8, 9, 10, 11] (fun i _ _ _ _ wr => ∃ j : Nat, j ≤ len ∧ i = .int .i64 j ∧ Ps w wr B D g gw (300 * j)) (fun i _ _ _ _ _ => len - (intOf i).toNat)
    case atStart => exact ⟨0, Nat.zero_le _, rfl, H4.out⟩
    case round =>
      clear H4
      obtain ⟨j, hj, rfl, HX⟩ := hrel
      have H4 := hid HX
      clear HX
      by_cases hlt : j < len
      · have u0 : ((j : Int) < len) = True := eq_true (by omega)
        have u1 : decide ((j : Int) < len) = true := decide_eq_true (by omega)
        have u2 : IntKind.i64.wrap ((j : Int) + 1) = ((j + 1 : Nat) : Int) := by have := HN.out; rw [IntKind.wrap_i64]; omega
        have u3 : (j < len) = True := eq_true hlt
        obtain ⟨b, o, rfl, hcl⟩ := HS.out.get j hlt
        have HWF := hid (HS.out.wf j hlt)
        generalize hs : S j = s at hcl HWF
        obtain ⟨x0, x1, x2, x3, x4, x5, x6⟩ := hcl.at H4.out.below
        clear hcl hs
        obtain ⟨w5, hw5⟩ : ∃ w5, w5 = wr.alloc (.cells #[.int .i64 s.who, .int .i64 s.bits, .int .i64 s.flip, .bool s.f.e, .int .u32 s.f.i, .bool s.f.r, .string s.f.d] SpT) := ⟨_, rfl⟩
        have hbw : Below wr.heap.size wr w5 := by rw [hw5]; exact (Below.refl _ wr).alloc (Nat.le_refl _) _
        have hbox : Blk w5 wr.heap.size SpT (sc s) := by rw [hw5]; exact Blk.new wr (sc s) SpT
        obtain ⟨c, r, k', hp, hq1, hq2, hq3⟩ := H4.out.ex
        have HP := hid (hp.later hbw)
        have HQ := hid (And.intro hq1 (And.intro hq2 hq3))
        have HBX := hid hbox
        have HBO := hid (H4.out.below.trans (hbw.mono H4.out.below.size))
        clear hbw hbox hp hq1 hq2 hq3 H4
        by_cases hbig : 300 < s.bits ∨ 20 < s.f.d.size
        · by_cases h2 : 300 < s.bits
          · have v0 : (300 < s.bits) = True := eq_true h2
            have v1 : decide (300 < s.bits) = true := decide_eq_true h2
            clear hbig h2
            go_wp2_with fail
            rw [← hw5]
            go_ret
            exact ⟨rfl, HBO.out⟩
          · have v0 : (300 < s.bits) = False := eq_false h2
            have v1 : decide (300 < s.bits) = false := decide_eq_false h2
            have v2 : (20 < (s.f.d.size : Int)) = True := eq_true (by omega)
            have v3 : decide (20 < (s.f.d.size : Int)) = true := decide_eq_true (by omega)
            clear hbig h2
            go_wp2_with fail
            rw [← hw5]
            go_ret
            exact ⟨rfl, HBO.out⟩
        · have v0 : (300 < s.bits) = False := eq_false (by omega)
          have v1 : decide (300 < s.bits) = false := decide_eq_false (by omega)
          have v2 : (20 < (s.f.d.size : Int)) = False := eq_false (by omega)
          have v3 : decide (20 < (s.f.d.size : Int)) = false := decide_eq_false (by omega)
          have HZ := hid (show s.bits ≤ 300 by omega)
          clear hbig
          go_upto_region 12 with fail
          rw [← hw5]
          clear hw5 x0 x1 x2 x3 x4 x5 x6 HBO
          generalize wr.heap.size = p at HBX ⊢
          have y0 : w5.cell? ⟨p, 0, none⟩ = some (.int .i64 s.who) := HBX.out.cell 0
          have y1 : w5.cell? ⟨p, 1, none⟩ = some (.int .i64 s.bits) := HBX.out.cell 1
          have y6 : w5.cell? ⟨p, 6, none⟩ = some (.string s.f.d) := HBX.out.cell 6
          obtain ⟨a, q, ha, hqq, hpq⟩ := HP.out
          have z0 : w5.cell? ⟨gw, 0, none⟩ = some (.slice (some ⟨q.gm, 0, none⟩) r.n q.cm) := by rw [← hqq]; exact hpq.rm.top.cell 0
          have HPQ := hid hpq
          have HAG := hid ha
          have HQG := hid hqq
          clear hpq HP ha hqq
          obtain ⟨ok, hok⟩ : ∃ ok : Bool, ok = decide (0 ≤ s.who ∧ s.who < r.n) := ⟨_, rfl⟩
          go_upto_region 15 with fail
          go_cut [62] (fun s62 wc => s62 = .bool ok ∧ wc = w5.drew)
          case first =>
            by_cases h1 : 0 ≤ s.who
            · have e1 : (s.who ≥ 0) = True := eq_true h1
              have e2 : decide (s.who ≥ 0) = true := decide_eq_true h1
              have e3 : (0 ≤ s.who) = True := eq_true h1
              have e4 : decide (0 ≤ s.who) = true := decide_eq_true h1
              have e5 : decide (s.who < (r.n : Int)) = ok := by rw [hok]; simp [h1]
              clear hok h1
              refine region_text (by kernel_rfl) (by kernel_rfl) (fun _ _ W => W = w5.drew) rfl ?_
              iterate 13 ((try simp only [Act.put, List.setIfInBounds_toArray, List.set_cons_zero, List.set_cons_succ]); first
                | (refine t_skip (fun _ => rfl) (fun b γ W hT => hT) ?_)
                | (refine t_pure ?_ (fun _ => rfl) (fun b γ W hT => hT) (fun b γ W hT _ => ?_) ?_; rotate_left; · (subst hT; go_simp; first | rfl | (simp; done))))
              refine t_end ?_
              intro bq gq w6 hall h6
              (try simp only [Act.put, List.setIfInBounds_toArray, List.set_cons_zero, List.set_cons_succ])
              subst h6
              go_wp2_with fail
              go_meet
              case rel => exact ⟨rfl, rfl⟩
            · have e1 : (s.who ≥ 0) = False := eq_false h1
              have e2 : decide (s.who ≥ 0) = false := decide_eq_false h1
              have e3 : (0 ≤ s.who) = False := eq_false h1
              have e4 : decide (0 ≤ s.who) = false := decide_eq_false h1
              have e5 : ok = false := by rw [hok]; simp [h1]
              clear hok h1
              subst e5
              refine region_text (by kernel_rfl) (by kernel_rfl) (fun _ _ W => W = w5.drew) rfl ?_
              iterate 13 ((try simp only [Act.put, List.setIfInBounds_toArray, List.set_cons_zero, List.set_cons_succ]); first
                | (refine t_skip (fun _ => rfl) (fun b γ W hT => hT) ?_)
                | (refine t_pure ?_ (fun _ => rfl) (fun b γ W hT => hT) (fun b γ W hT _ => ?_) ?_; rotate_left; · (subst hT; go_simp; first | rfl | (simp; done))))
              refine t_end ?_
              intro bq gq w6 hall h6
              (try simp only [Act.put, List.setIfInBounds_toArray, List.set_cons_zero, List.set_cons_succ])
              subst h6
              go_wp2_with fail
              go_meet
              case rel => exact ⟨rfl, rfl⟩
          case rest =>
            obtain ⟨rfl, rfl⟩ := hcut
            have HPQ := hid HPQ.out.drew
            have HBX := hid HBX.out.drew
            clear y0 y1 y6 z0
            generalize w5.drew = w6 at HPQ HBX ⊢
            have y0 : w6.cell? ⟨p, 0, none⟩ = some (.int .i64 s.who) := HBX.out.cell 0
            have y6 : w6.cell? ⟨p, 6, none⟩ = some (.string s.f.d) := HBX.out.cell 6
            have z0 : w6.cell? ⟨gw, 0, none⟩ = some (.slice (some ⟨q.gm, 0, none⟩) r.n q.cm) := by rw [← HQG.out]; exact HPQ.out.rm.top.cell 0
            have HNC := hid (show r.n = c.n from HQ.out.1.n)
            have hwp : 0 ≤ s.who ∧ s.who < r.n → ∃ jj : Nat, s.who = jj ∧ jj < r.n := fun ⟨h1, h2⟩ => ⟨s.who.toNat, by omega, by omega⟩
            have HWP := hid hwp
            have HOK := hid hok
            clear hwp hok
            go_upto_if 62 with fail
            go_cut [9] (fun s9 wc => ∃ want r', s9 = .int .i64 want ∧ Pr w wc B D g gw c r' ∧ Blk wc p SpT (sc s) ∧ ((ok = false ∧ want = 141 ∧ r' = r) ∨ (∃ jj : Nat, ok = true ∧ s.who = jj ∧ jj < r.n ∧ want = ((r.qs jj).ask s.f).2 ∧ r' = r.ask jj s.f)))
            case first =>
              cases ok
              · go_wp2_with fail
                go_meet
                case rel => exact ⟨141, r, rfl, ⟨a, q, HAG.out, HQG.out, HPQ.out⟩, HBX.out, .inl (by simp)⟩
              · obtain ⟨jj, hjj, hjn⟩ := HWP.out (by simpa using HOK.out.symm)
                have hvn : ((jj : Int) < r.n) = True := eq_true (by omega)
                have y3 : w6.cell? ⟨p, 3, none⟩ = some (.bool s.f.e) := HBX.out.cell 3
                have y4 : w6.cell? ⟨p, 4, none⟩ = some (.int .u32 s.f.i) := HBX.out.cell 4
                have y5 : w6.cell? ⟨p, 5, none⟩ = some (.bool s.f.r) := HBX.out.cell 5
                have z1 : w6.cell? ⟨q.gm, jj, none⟩ = some (.pointer (some ⟨q.p jj, 0, none⟩)) := HPQ.out.rm.row.cell hjn
                have HJJ := hid hjj
                have HJN := hid hjn
                rw [hjj] at y0
                have hu3 : (jj < r.n) = True := eq_true hjn
                clear hjj hjn
                go_wp2_with fail
                refine region_textC (by kernel_rfl) (by kernel_rfl) (fun b _ W => T16 w w6.drew B D g gw c (r.ask jj s.f) b W) ⟨fun _ => rfl, fun e => absurd e (by decide)⟩ ?_
                iterate 10 ((try simp only [Act.put, List.setIfInBounds_toArray, List.set_cons_zero, List.set_cons_succ]); (refine c_run rfl ?_ (fun _ => rfl) (fun b γ W hcl h hb _ => ⟨W, ?_, h.up _ (by decide)⟩) ?_; rotate_left; · (rw [h.fst (closed_not hcl 12 (by kernel_rfl) hb)]; go_simp; first | rfl | (simp; done))))
                refine c_call rfl (f := 8) (fun _ => #[.pointer (some ⟨q.p jj, 0, none⟩), fv s.f]) (.int .i64 ((r.qs jj).ask s.f).2) (fun _ => rfl) (fun b γ W _ _ => by go_simp; rfl) (fun b γ W hcl h hb hn => ?_) ?_
                · obtain rfl := h.fst hb
                  refine (pq_ask HPQ.out.drew jj HJN.out s.f).mono ?_
                  rintro e w' ⟨k1, k2, k3⟩
                  rw [HAG.out, HQG.out] at k2
                  have e10 : Lib.up b 10 10 = true := up_at _ _
                  exact ⟨k1, fun e => absurd (e10.symm.trans e) Bool.noConfusion, fun _ => ⟨k2, k3⟩⟩
                refine c_pure rfl (.int .i64 ((r.qs jj).ask s.f).2) (fun _ => rfl) (fun b γ W h => h.up _ (by decide)) (fun b γ W _ h _ => by go_simp) ?_
                refine t_end ?_
                intro bq gq w7 hall hS
                (try simp only [Act.put, List.setIfInBounds_toArray, List.set_cons_zero, List.set_cons_succ])
                obtain ⟨hp7, hk7⟩ := hS.2.snd (hall 10 (by decide))
                have HP7 := hid hp7
                have HB7 := hid (hk7 _ _ HBX.out.drew)
                clear hp7 hk7 hS hall y0 y3 y4 y5 y6 z0 z1
                go_wp2_with fail
                go_meet
                case rel => exact ⟨_, _, rfl, HP7.out, HB7.out, .inr ⟨jj, by simp, HJJ.out, HJN.out, rfl, rfl⟩⟩
            case rest =>
              obtain ⟨want, r', rfl, hp, hbx, hor⟩ := hcut
              clear y0 y6 z0
              have HBX := hid hbx
              have y0 : wc.cell? ⟨p, 0, none⟩ = some (.int .i64 s.who) := hbx.cell 0
              have y3 : wc.cell? ⟨p, 3, none⟩ = some (.bool s.f.e) := hbx.cell 3
              have y4 : wc.cell? ⟨p, 4, none⟩ = some (.int .u32 s.f.i) := hbx.cell 4
              have y5 : wc.cell? ⟨p, 5, none⟩ = some (.bool s.f.r) := hbx.cell 5
              have y6 : wc.cell? ⟨p, 6, none⟩ = some (.string s.f.d) := hbx.cell 6
              have hask : Calls Tryz.prog 9 #[.pointer (some ⟨g, 0, none⟩), .int .i64 s.who, fv s.f] wc fun e w' => e = .returned (.int .i64 want) ∧ ∃ c', Pr w w' B D g gw c' r' ∧ Bw c' r' k' ∧ c'.bn ≤ k' ∧ Kb wc w' := by
                rcases hor with ⟨e1, rfl, rfl⟩ | ⟨jj, e1, e2, e3, rfl, rfl⟩
                · have ho : ¬ (0 ≤ s.who ∧ s.who < r'.n) := by have := HOK.out; rw [e1] at this; simpa using this.symm
                  refine (pr_ask_out hp s.who (by have := HNC.out; omega) s.f).mono ?_
                  rintro e w' ⟨k1, k2, k3⟩
                  exact ⟨k1, c, k2, HQ.out.1, HQ.out.2.1, k3⟩
                · have hb := bw_ask HQ.out.1 jj (HNC.out ▸ e3) s.f HWF.out
                  rw [e2]
                  refine (pr_ask hp jj (HNC.out ▸ e3) s.f HWF.out).mono ?_
                  rintro e w' ⟨k1, k2, k3⟩
                  exact ⟨by rw [k1, hb.2], _, k2, hb.1, HQ.out.2.1, k3⟩
              rw [fv_eq] at hask
              have HK := hid HQ.out.2.2
              have HASK := hid hask
              clear hask hp hbx hor HPQ HOK HWP HNC HQ HWF
              go_wp2_with fail
              with_reducible refine HASK.out.mono ?_
              rintro y w7 ⟨rfl, c1, hp, hb, hbn, hkb⟩
              have H7 := hid (And.intro hp (And.intro hb hbn))
              have HBX7 := hid (hkb _ _ HBX.out)
              clear HASK hp hb hbn hkb HBX y0 y3 y4 y5 y6
              go_wp2_with fail
              go_loopw [10] (fun i wr => ∃ kk : Nat, kk ≤ s.bits.toNat ∧ i = .int .i64 kk ∧ Blk wr p SpT (sc s) ∧ ∃ c r k2, Pr w wr B D g gw c r ∧ Bw c r k2 ∧ c.bn ≤ k2 ∧ k2 ≤ 300 * j + kk) (fun i _ => s.bits.toNat - (intOf i).toNat)
              case atStart => exact ⟨0, Nat.zero_le _, rfl, HBX7.out, c1, r', k', H7.out.1, H7.out.2.1, H7.out.2.2, HK.out⟩
              case round =>
                clear H7 HBX7 HK
                obtain ⟨kk, hkk, rfl, hbx, c, r, k2, hp, hbw, hbn, hk2⟩ := hrel
                have HJ := hid (show j ≤ 10 by have := HN.out; omega)
                have y1 : wr.cell? ⟨p, 1, none⟩ = some (.int .i64 s.bits) := hbx.cell 1
                have HP := hid hp
                have HW := hid hbw
                have HK := hid (And.intro hbn hk2)
                have HBX := hid hbx
                clear hbx hp hbw hbn hk2
                by_cases hkt : (kk : Int) < s.bits
                · have w0 : ((kk : Int) < s.bits) = True := eq_true hkt
                  have w1' : decide ((kk : Int) < s.bits) = true := decide_eq_true hkt
                  have w2' : IntKind.i64.wrap ((kk : Int) + 1) = ((kk + 1 : Nat) : Int) := by have := HZ.out; rw [IntKind.wrap_i64]; omega
                  have HKT := hid hkt
                  clear hkt
                  obtain ⟨fl, hfl⟩ : ∃ fl : Bool, fl = decide ((kk : Int) = s.flip) := ⟨_, rfl⟩
                  have f1 : decide ((kk : Int) = s.flip) = fl := hfl.symm
                  have f2 : ((kk : Int) == s.flip) = fl := by rw [hfl]; rfl
                  clear hfl
                  have hst := bw_step HW.out (by have := HK.out.2; have := HJ.out; have := HZ.out; have := HKT.out; omega) fl
                  have hqs : ∀ i, i < r.n → QS (r.qs i) := fun i hi => qs_of (HW.out.fine i (HW.out.n ▸ hi)) (HW.out.sim i (HW.out.n ▸ hi)) (HW.out.qi i (HW.out.n ▸ hi)) (by have := HK.out.2; have := HJ.out; have := HZ.out; have := HKT.out; omega)
                  have htr : r.tr.length ≤ 8000 := by rw [HW.out.tr, HW.out.len]; have := HK.out.2; have := HJ.out; have := HZ.out; have := HKT.out; omega
                  have hbn : c.bn ≤ 1000000 := by have := HK.out; have := HJ.out; have := HZ.out; have := HKT.out; omega
                  obtain ⟨L, hL⟩ : ∃ L, L = c.evs fl := ⟨_, rfl⟩
                  have hln : L.length ≤ 1000 := by
                    obtain ⟨_, _, _, _, hq⟩ := HP.out
                    rw [hL]
                    have := evs_len (c.turned fl) (cb (c.turned fl)) c.n
                    have := hq.wm.most
                    show (WireW.evs (c.turned fl) (cb (c.turned fl)) c.n).length ≤ 1000
                    omega
                  obtain ⟨c', hc'⟩ : ∃ c', c' = c.step fl := ⟨_, rfl⟩
                  obtain ⟨r', hr'⟩ : ∃ r', r' = r.step fl := ⟨_, rfl⟩
                  have HC1 := hid (show ∀ W, Pr w W B D g gw c r → Calls Tryz.prog 11 #[.pointer (some ⟨g, 0, none⟩), .bool fl] W fun e w' => ∃ n, e = .returned (decV L.length n) ∧ Pv w w' B D g gw c' r (decV L.length n) L ∧ Kb W w' from fun W hp => by
                    refine (pr_step hp fl hbn).mono ?_
                    rintro e w' ⟨v, k1, k2, k3⟩
                    rw [← hL, ← hc'] at k2
                    obtain ⟨bb, hev⟩ := k2.ev
                    obtain ⟨m, rfl⟩ := decV_onto hev
                    exact ⟨m, k1, k2, k3⟩)
                  have HC2 := hid (show ∀ W v, Pv w W B D g gw c' r v L → Calls Tryz.prog 12 #[.pointer (some ⟨gw, 0, none⟩), .bool fl] W fun e w' => ∃ n, e = .returned (decV L.length n) ∧ Pr w w' B D g gw c' r' ∧ (∃ b, Evs w' b v L) ∧ (∃ b, Evs w' b (decV L.length n) L) ∧ Kb W w' from fun W v hp => by
                    refine (pr_rstep hp hqs htr fl).mono ?_
                    rintro e w' ⟨v', b1, b2, k1, k2, k3, k4, k5⟩
                    rw [hst.2, ← hL] at k4
                    rw [← hr'] at k2
                    obtain ⟨m, rfl⟩ := decV_onto k4
                    exact ⟨m, k1, k2, ⟨_, k3⟩, ⟨_, k4⟩, k5⟩)
                  rw [← hc', ← hr'] at hst
                  have HBW := hid hst.1
                  have HBN := hid (show c'.bn ≤ k2 + 1 from by rw [hc']; show c.bn + 1 ≤ k2 + 1; have := HK.out; omega)
                  have HLN := hid hln
                  clear hst hqs htr hbn hL hln hc' hr'
                  go_wp2_with fail
                  clear y1
                  refine region_textC (by kernel_rfl) (by kernel_rfl) (T22 w wr B D g gw c c' r r' L) ⟨Kb.of_below (Below.refl _ wr).drew, fun _ => HP.out.drew, fun e => absurd e (by decide), fun e => absurd e (by decide)⟩ ?_
                  refine c_pure rfl (.pointer (some ⟨g, 0, none⟩)) (fun _ => rfl) (fun b γ W h => h.up _ (by decide) (by decide)) (fun b γ W _ h _ => by go_simp) ?_
                  refine c_pure rfl (.int .i64 kk) (fun _ => rfl) (fun b γ W h => h.up _ (by decide) (by decide)) (fun b γ W _ h _ => by go_simp) ?_
                  refine c_pure rfl (.pointer (some ⟨p, 2, none⟩)) (fun _ => rfl) (fun b γ W h => h.up _ (by decide) (by decide)) (fun b γ W _ h _ => by go_simp) ?_
                  refine c_pure rfl (.int .i64 s.flip) (fun _ => rfl) (fun b γ W h => h.up _ (by decide) (by decide)) (fun b γ W _ h _ => by
                    have y2 : W.cell? ⟨p, 2, none⟩ = some (.int .i64 s.flip) := (h.kb _ _ HBX.out).cell 2
                    go_simp) ?_
                  refine c_pure rfl (.bool fl) (fun _ => rfl) (fun b γ W h => h.up _ (by decide) (by decide)) (fun b γ W _ h _ => by go_simp) ?_
                  refine c_callN rfl (f := 11) #[.pointer (some ⟨g, 0, none⟩), .bool fl] (decV L.length) (fun _ => rfl) (fun b γ W h _ => by go_simp) (fun b γ W hcl h hb _ => ?_) ?_
                  · have h11 := closed_not (j := 11) hcl 14 (by kernel_rfl) hb
                    have e5 : Lib.up b 5 5 = true := up_at _ _
                    have e11 : Lib.up b 5 11 = false := by rw [up_of_ne (by decide), h11]
                    refine (HC1.out W (h.s0 hb)).mono ?_
                    rintro e w' ⟨m, k1, k2, k3⟩
                    have g5 : Lib.upd γ 5 m 5 = m := by simp [Lib.upd]
                    refine ⟨m, k1, h.kb.trans k3, fun e => absurd (e5.symm.trans e) Bool.noConfusion, fun _ _ => ?_, fun e => absurd (e11.symm.trans e) Bool.noConfusion⟩
                    rw [g5]; exact k2
                  refine c_pure rfl (.pointer (some ⟨gw, 0, none⟩)) (fun _ => rfl) (fun b γ W h => h.up _ (by decide) (by decide)) (fun b γ W _ h _ => by go_simp) ?_
                  refine c_pure rfl (.int .i64 kk) (fun _ => rfl) (fun b γ W h => h.up _ (by decide) (by decide)) (fun b γ W _ h _ => by go_simp) ?_
                  refine c_pure rfl (.pointer (some ⟨p, 2, none⟩)) (fun _ => rfl) (fun b γ W h => h.up _ (by decide) (by decide)) (fun b γ W _ h _ => by go_simp) ?_
                  refine c_pure rfl (.int .i64 s.flip) (fun _ => rfl) (fun b γ W h => h.up _ (by decide) (by decide)) (fun b γ W _ h _ => by
                    have y2 : W.cell? ⟨p, 2, none⟩ = some (.int .i64 s.flip) := (h.kb _ _ HBX.out).cell 2
                    go_simp) ?_
                  refine c_pure rfl (.bool fl) (fun _ => rfl) (fun b γ W h => h.up _ (by decide) (by decide)) (fun b γ W _ h _ => by go_simp) ?_
                  refine c_callN rfl (f := 12) #[.pointer (some ⟨gw, 0, none⟩), .bool fl] (decV L.length) (fun _ => rfl) (fun b γ W h _ => by go_simp) (fun b γ W hcl h hb hn => ?_) ?_
                  · have h5 : b 5 = true := hn 5 (by decide)
                    have e5 : Lib.up b 11 5 = true := by rw [up_of_ne (by decide), h5]
                    have e11 : Lib.up b 11 11 = true := up_at _ _
                    refine (HC2.out W _ (h.s1 h5 hb)).mono ?_
                    rintro e w' ⟨m, k1, k2, k3, k4, k5⟩
                    have g5 : Lib.upd γ 11 m 5 = γ 5 := by simp [Lib.upd]
                    have g11 : Lib.upd γ 11 m 11 = m := by simp [Lib.upd]
                    refine ⟨m, k1, h.kb.trans k5, fun e => absurd (e5.symm.trans e) Bool.noConfusion, fun _ e => absurd (e11.symm.trans e) Bool.noConfusion, fun _ => ?_⟩
                    rw [g5, g11]; exact ⟨k2, k3, k4⟩
                  refine c_call rfl (f := 10) (fun γ => #[decV L.length (γ 5), decV L.length (γ 11)]) (.bool true) (fun _ => rfl) (fun b γ W _ _ => by go_simp) (fun b γ W hcl h hb hn => ?_) ?_
                  · have h11 : b 11 = true := hn 11 (by decide)
                    have h5 : b 5 = true := hn 5 (by decide)
                    obtain ⟨q1, ⟨b1, q2⟩, b2, q3⟩ := h.s2 h11
                    refine (WireL.same_calls W _ _ b1 b2 L q2 q3 HLN.out).mono ?_
                    rintro e w' ⟨k1, k2⟩
                    refine ⟨k1, T22.up (i := 12) ⟨h.kb.trans (Kb.of_below k2), fun e => absurd (h5.symm.trans e) Bool.noConfusion, fun _ e => absurd (h11.symm.trans e) Bool.noConfusion, fun _ => ⟨q1.later k2, ⟨_, evs_below q2 k2⟩, ⟨_, evs_below q3 k2⟩⟩⟩ (by decide) (by decide)⟩
                  refine c_pure rfl (.bool false) (fun _ => rfl) (fun b γ W h => h.up _ (by decide) (by decide)) (fun b γ W _ h _ => by go_simp) ?_
                  refine t_end ?_
                  intro bq gq w8 hall hS
                  (try simp only [Act.put, List.setIfInBounds_toArray, List.set_cons_zero, List.set_cons_succ])
                  have HP8 := hid (hS.2.s2 (hall 11 (by decide))).1
                  have HB8 := hid (hS.2.kb _ _ HBX.out)
                  clear hS hall HP HW HBX HC1 HC2
                  go_wp2_with fail
                  go_roundw
                  case rel => exact ⟨kk + 1, by have := HKT.out; omega, by go_num, HB8.out, c', r', k2 + 1, HP8.out, HBW.out, HBN.out, by have := HK.out; omega⟩
                  case measure => have := HKT.out; simp [intOf]; omega
                · have w0 : ((kk : Int) < s.bits) = False := eq_false hkt
                  have w1' : decide ((kk : Int) < s.bits) = false := decide_eq_false hkt
                  have HKK := hid (show kk ≤ 300 by have := HZ.out; omega)
                  clear hkt hkk
                  go_wp2_with fail
                  clear y1
                  have HL3 := hid (show (∀ i, i < r.n → i < c.n) ∧ r.n ≤ 8 from ⟨fun i hi => HW.out.n ▸ hi, by
                    obtain ⟨_, _, _, _, hq⟩ := HP.out
                    exact hq.rm.most⟩)
                  go_loopw [11] (fun i wr => ∃ kq : Nat, kq ≤ r.n ∧ i = .int .i64 kq ∧ Pr w wr B D g gw c r) (fun i _ => r.n - (intOf i).toNat)
                  case atStart => exact ⟨0, Nat.zero_le _, rfl, HP.out⟩
                  case round =>
                    clear HP HBX
                    obtain ⟨kq, hkq, rfl, hp⟩ := hrel
                    obtain ⟨a, q, ha, hqq, hpq⟩ := hp
                    have HPQ := hid hpq
                    have z0 : wr.cell? ⟨gw, 0, none⟩ = some (.slice (some ⟨q.gm, 0, none⟩) r.n q.cm) := by rw [← hqq]; exact hpq.rm.top.cell 0
                    have HAG := hid ha
                    have HQG := hid hqq
                    clear hpq ha hqq
                    by_cases hqt : kq < r.n
                    · have w0 : ((kq : Int) < r.n) = True := eq_true (by omega)
                      have w1' : decide ((kq : Int) < r.n) = true := decide_eq_true (by omega)
                      have w2' : IntKind.i64.wrap ((kq : Int) + 1) = ((kq + 1 : Nat) : Int) := by have := HL3.out.2; rw [IntKind.wrap_i64]; omega
                      have w3' : (kq < r.n) = True := eq_true hqt
                      have HQT := hid hqt
                      have z1 : wr.cell? ⟨q.gm, kq, none⟩ = some (.pointer (some ⟨q.p kq, 0, none⟩)) := HPQ.out.rm.row.cell hqt
                      have z2 : wr.cell? ⟨gw, 1, none⟩ = some (.slice (some ⟨q.gh, 0, none⟩) r.n q.ch) := by rw [← HQG.out]; exact HPQ.out.rm.top.cell 1
                      have z3 : wr.cell? ⟨q.gh, kq, none⟩ = some (q.es kq) := HPQ.out.rm.hrow.cell hqt
                      have z4 : wr.cell? ⟨q.p kq, 14, none⟩ = some (.int .i64 (r.qs kq).sent) := (HPQ.out.rm.node kq hqt).cell 14
                      have z5 : wr.cell? ⟨q.p kq, 15, none⟩ = some (.int .i64 (r.qs kq).got) := (HPQ.out.rm.node kq hqt).cell 15
                      obtain ⟨ph, ch, hes⟩ := h_slice (HPQ.out.rm.heard kq hqt)
                      have hsm := HW.out.sim kq (HL3.out.1 kq hqt)
                      have hhs := HW.out.hs kq (HL3.out.1 kq hqt)
                      obtain ⟨L, hL⟩ : ∃ L, L = c.hs kq := ⟨_, rfl⟩
                      have HSN := hid (show (c.ms kq).sent = (r.qs kq).sent from hsm.base.sent.symm)
                      have HGT := hid (show (c.ms kq).got = (r.qs kq).got from hsm.base.got.symm)
                      have HHS := hid hhs
                      have HL := hid hL
                      clear hsm hhs hL hqt hkq
                      generalize hSS : (r.qs kq).sent = SS at z4 HSN
                      generalize hSG : (r.qs kq).got = SG at z5 HGT
                      clear hSS hSG
                      go_wp2_with fail
                      refine region_textC (by kernel_rfl) (by kernel_rfl) (T27 wr L) ⟨(Below.refl _ wr).drew, fun e => absurd e (by decide)⟩ ?_
                      refine c_pure rfl (.pointer (some ⟨g, 0, none⟩)) (fun _ => rfl) (fun b γ W h => h.up _ (by decide)) (fun b γ W _ h _ => by go_simp) ?_
                      refine c_pure rfl (.int .i64 kq) (fun _ => rfl) (fun b γ W h => h.up _ (by decide)) (fun b γ W _ h _ => by go_simp) ?_
                      refine c_callN rfl (f := 13) #[.pointer (some ⟨g, 0, none⟩), .int .i64 kq] (decV L.length) (fun _ => rfl) (fun b γ W h _ => by go_simp) (fun b γ W hcl h hb _ => ?_) ?_
                      · rw [← HAG.out]
                        refine (wi_heard (HPQ.out.later h.bl).wi kq (HL3.out.1 kq HQT.out)).mono ?_
                        rintro e w' ⟨v, k1, k2, k3, _⟩
                        rw [← HL.out] at k2
                        obtain ⟨m, rfl⟩ := decV_onto k2
                        have g2 : Lib.upd γ 2 m 2 = m := by simp [Lib.upd]
                        refine ⟨m, k1, h.bl.trans (k3.mono h.bl.size), fun _ => ?_⟩
                        rw [g2]; exact evs_mono k2 h.bl.size
                      refine c_pure rfl (.pointer (some ⟨gw, 0, none⟩)) (fun _ => rfl) (fun b γ W h => h.up _ (by decide)) (fun b γ W _ h _ => by go_simp) ?_
                      refine c_pure rfl (.pointer (some ⟨gw, 0, none⟩)) (fun _ => rfl) (fun b γ W h => h.up _ (by decide)) (fun b γ W _ h _ => by go_simp) ?_
                      refine c_pure rfl (.pointer (some ⟨gw, 1, none⟩)) (fun _ => rfl) (fun b γ W h => h.up _ (by decide)) (fun b γ W _ h _ => by go_simp) ?_
                      refine c_pure rfl (.slice (some ⟨q.gh, 0, none⟩) r.n q.ch) (fun _ => rfl) (fun b γ W h => h.up _ (by decide)) (fun b γ W _ h _ => by
                        have y := bel_cell h.bl z2
                        clear z0 z1 z2 z3 z4 z5
                        go_simp) ?_
                      refine c_pure rfl (.int .i64 kq) (fun _ => rfl) (fun b γ W h => h.up _ (by decide)) (fun b γ W _ h _ => by go_simp) ?_
                      refine c_pure rfl (.pointer (some ⟨q.gh, kq, none⟩)) (fun _ => rfl) (fun b γ W h => h.up _ (by decide)) (fun b γ W _ h _ => by go_simp) ?_
                      refine c_pure rfl (q.es kq) (fun _ => rfl) (fun b γ W h => h.up _ (by decide)) (fun b γ W _ h _ => by
                        have y := bel_cell h.bl z3
                        clear z0 z1 z2 z3 z4 z5
                        rw [hes] at y ⊢
                        go_simp) ?_
                      clear hes
                      (try simp only [Act.put, List.setIfInBounds_toArray, List.set_cons_zero, List.set_cons_succ])
                      refine c_call rfl (f := 10) (fun γ => #[decV L.length (γ 2), q.es kq]) (.bool true) (fun _ => rfl) (fun b γ W _ _ => by go_simp) (fun b γ W hcl h hb hn => ?_) ?_
                      · have hr := (HPQ.out.later h.bl).rm.heard kq HQT.out
                        rw [HHS.out, ← HL.out] at hr
                        refine (same_h W _ _ _ _ L (h.ev (hn 2 (by decide))) hr (by rw [HL.out]; have := HPQ.out.short kq (HL3.out.1 kq HQT.out); omega)).mono ?_
                        rintro e w' ⟨k1, k2⟩
                        exact ⟨k1, (h.later k2).up _ (by decide)⟩
                      (try simp only [Act.put, List.setIfInBounds_toArray, List.set_cons_zero, List.set_cons_succ])
                      refine c_pure rfl (.bool false) (fun _ => rfl) (fun b γ W h => h.up _ (by decide)) (fun b γ W _ h _ => by go_simp) ?_
                      (try simp only [Act.put, List.setIfInBounds_toArray, List.set_cons_zero, List.set_cons_succ])
                      refine c_pure rfl (.bool false) (fun _ => rfl) (fun b γ W h => h.up _ (by decide)) (fun b γ W _ h _ => by go_simp) ?_
                      (try simp only [Act.put, List.setIfInBounds_toArray, List.set_cons_zero, List.set_cons_succ])
                      refine c_pure rfl (.pointer (some ⟨g, 0, none⟩)) (fun _ => rfl) (fun b γ W h => h.up _ (by decide)) (fun b γ W _ h _ => by go_simp) ?_
                      (try simp only [Act.put, List.setIfInBounds_toArray, List.set_cons_zero, List.set_cons_succ])
                      refine c_pure rfl (.int .i64 kq) (fun _ => rfl) (fun b γ W h => h.up _ (by decide)) (fun b γ W _ h _ => by go_simp) ?_
                      (try simp only [Act.put, List.setIfInBounds_toArray, List.set_cons_zero, List.set_cons_succ])
                      refine c_call rfl (f := 14) (fun _ => #[.pointer (some ⟨g, 0, none⟩), .int .i64 kq]) (.pointer (some ⟨a.gs kq, 0, none⟩)) (fun _ => rfl) (fun b γ W _ _ => by go_simp) (fun b γ W hcl h hb hn => ?_) ?_
                      · rw [← HAG.out]
                        refine (mac_in (HPQ.out.later h.bl).wm kq (HL3.out.1 kq HQT.out)).mono ?_
                        rintro e w' ⟨k1, rfl⟩
                        exact ⟨k1, h.up _ (by decide)⟩
                      (try simp only [Act.put, List.setIfInBounds_toArray, List.set_cons_zero, List.set_cons_succ])
                      refine c_call rfl (f := 15) (fun _ => #[.pointer (some ⟨a.gs kq, 0, none⟩)]) (.agg #[.int .i64 SS, .int .i64 SG]) (fun _ => rfl) (fun b γ W _ _ => by go_simp) (fun b γ W hcl h hb hn => ?_) ?_
                      · refine (nf_counts ((HPQ.out.later h.bl).wm.node kq (HL3.out.1 kq HQT.out))).mono ?_
                        rintro e w' ⟨k1, _, k2⟩
                        exact ⟨by rw [k1, HSN.out, HGT.out], (h.later k2).up _ (by decide)⟩
                      (try simp only [Act.put, List.setIfInBounds_toArray, List.set_cons_zero, List.set_cons_succ])
                      refine c_pure rfl (.pointer (some ⟨gw, 0, none⟩)) (fun _ => rfl) (fun b γ W h => h.up _ (by decide)) (fun b γ W _ h _ => by go_simp) ?_
                      (try simp only [Act.put, List.setIfInBounds_toArray, List.set_cons_zero, List.set_cons_succ])
                      refine c_pure rfl (.pointer (some ⟨gw, 0, none⟩)) (fun _ => rfl) (fun b γ W h => h.up _ (by decide)) (fun b γ W _ h _ => by go_simp) ?_
                      (try simp only [Act.put, List.setIfInBounds_toArray, List.set_cons_zero, List.set_cons_succ])
                      refine c_pure rfl (.pointer (some ⟨gw, 0, none⟩)) (fun _ => rfl) (fun b γ W h => h.up _ (by decide)) (fun b γ W _ h _ => by go_simp) ?_
                      (try simp only [Act.put, List.setIfInBounds_toArray, List.set_cons_zero, List.set_cons_succ])
                      refine c_pure rfl (.slice (some ⟨q.gm, 0, none⟩) r.n q.cm) (fun _ => rfl) (fun b γ W h => h.up _ (by decide)) (fun b γ W _ h _ => by
                        have y := bel_cell h.bl z0
                        clear z0 z1 z2 z3 z4 z5
                        go_simp) ?_
                      (try simp only [Act.put, List.setIfInBounds_toArray, List.set_cons_zero, List.set_cons_succ])
                      refine c_pure rfl (.int .i64 kq) (fun _ => rfl) (fun b γ W h => h.up _ (by decide)) (fun b γ W _ h _ => by go_simp) ?_
                      (try simp only [Act.put, List.setIfInBounds_toArray, List.set_cons_zero, List.set_cons_succ])
                      refine c_pure rfl (.pointer (some ⟨q.gm, kq, none⟩)) (fun _ => rfl) (fun b γ W h => h.up _ (by decide)) (fun b γ W _ h _ => by go_simp) ?_
                      (try simp only [Act.put, List.setIfInBounds_toArray, List.set_cons_zero, List.set_cons_succ])
                      refine c_pure rfl (.pointer (some ⟨q.p kq, 0, none⟩)) (fun _ => rfl) (fun b γ W h => h.up _ (by decide)) (fun b γ W _ h _ => by
                        have y := bel_cell h.bl z1
                        clear z0 z1 z2 z3 z4 z5
                        go_simp) ?_
                      (try simp only [Act.put, List.setIfInBounds_toArray, List.set_cons_zero, List.set_cons_succ])
                      refine c_pure rfl (.pointer (some ⟨q.p kq, 0, none⟩)) (fun _ => rfl) (fun b γ W h => h.up _ (by decide)) (fun b γ W _ h _ => by go_simp) ?_
                      (try simp only [Act.put, List.setIfInBounds_toArray, List.set_cons_zero, List.set_cons_succ])
                      refine c_pure rfl (.pointer (some ⟨q.p kq, 14, none⟩)) (fun _ => rfl) (fun b γ W h => h.up _ (by decide)) (fun b γ W _ h _ => by go_simp) ?_
                      (try simp only [Act.put, List.setIfInBounds_toArray, List.set_cons_zero, List.set_cons_succ])
                      refine c_pure rfl (.agg #[.int .i64 SS, .int .i64 SG]) (fun _ => rfl) (fun b γ W h => h.up _ (by decide)) (fun b γ W _ h _ => by
                        have y := bel_cell h.bl z4
                        have y' := bel_cell h.bl z5
                        clear z0 z1 z2 z3 z4 z5
                        go_simp) ?_
                      (try simp only [Act.put, List.setIfInBounds_toArray, List.set_cons_zero, List.set_cons_succ])
                      refine c_pure rfl (.bool false) (fun _ => rfl) (fun b γ W h => h.up _ (by decide)) (fun b γ W _ h _ => by go_simp) ?_
                      (try simp only [Act.put, List.setIfInBounds_toArray, List.set_cons_zero, List.set_cons_succ])
                      refine c_pure rfl (.bool false) (fun _ => rfl) (fun b γ W h => h.up _ (by decide)) (fun b γ W _ h _ => by go_simp) ?_
                      refine t_end ?_
                      intro bq gq w8 hall hS
                      (try simp only [Act.put, List.setIfInBounds_toArray, List.set_cons_zero, List.set_cons_succ])
                      have H8 := hid (HPQ.out.later hS.2.bl)
                      clear hS hall HPQ z0 z1 z2 z3 z4 z5
                      go_wp2_with fail
                      go_roundw
                      case rel => exact ⟨kq + 1, by have := HQT.out; omega, by go_num, a, q, HAG.out, HQG.out, H8.out⟩
                      case measure => have := HQT.out; simp [intOf]; omega
                    · obtain rfl : kq = r.n := by omega
                      have w0 : ((r.n : Int) < r.n) = False := eq_false (by omega)
                      have HTR := hid (show (⟨(tailOf c.l).toArray⟩ : ByteArray) = By r.tr by
                        have hl : c.l.length ≤ 4000 := by rw [HW.out.len]; have := HK.out.2; have := HJ.out; have := HKK.out; omega
                        rw [show tailOf c.l = c.l by unfold tailOf; rw [show c.l.length - 4000 = 0 by omega]; rfl, HW.out.tr]; rfl)
                      have zz : wr.cell? ⟨gw, 2, none⟩ = some (.string (By r.tr)) := by rw [← HQG.out]; exact HPQ.out.rm.top.cell 2
                      go_wp2_with fail
                      clear z0
                      obtain ⟨wz, hwz⟩ : ∃ wz, wz = wr := ⟨_, rfl⟩
                      subst hwz
                      refine region_text (by kernel_rfl) (by kernel_rfl) (fun _ _ W => Below wz.heap.size wz W) (Below.refl _ _).drew ?_
                      refine t_pure (.pointer (some ⟨g, 0, none⟩)) (fun _ => rfl) (fun b γ W h => h) (fun b γ W h _ => by go_simp) ?_
                      refine t_call (.pointer (some ⟨a.gb, 0, none⟩)) (fun _ => rfl) (f := 16) (args := #[.pointer (some ⟨g, 0, none⟩)]) (fun b γ W h _ => by go_simp) (fun b γ W h hb => ?_) ?_
                      · rw [← HAG.out]
                        refine (bus_wire (HPQ.out.later h).wm).mono ?_
                        rintro e w' ⟨k1, rfl⟩
                        exact ⟨k1, h⟩
                      refine t_call (.string (By r.tr)) (fun _ => rfl) (f := 17) (args := #[.pointer (some ⟨a.gb, 0, none⟩)]) (fun b γ W h _ => by go_simp) (fun b γ W h hb => ?_) ?_
                      · have hq := (HPQ.out.later h).wm
                        refine (BusW.trace_calls B a.gb a.bv c.l c.bn c.t W hq.bus (by have := hq.ll; omega)).mono ?_
                        rintro e w' ⟨k1, k2⟩
                        exact ⟨by rw [k1, HTR.out], h.trans (k2.mono h.size)⟩
                      refine t_pure (.pointer (some ⟨gw, 0, none⟩)) (fun _ => rfl) (fun b γ W h => h) (fun b γ W h _ => by go_simp) ?_
                      refine t_pure (.pointer (some ⟨gw, 0, none⟩)) (fun _ => rfl) (fun b γ W h => h) (fun b γ W h _ => by go_simp) ?_
                      refine t_pure (.pointer (some ⟨gw, 2, none⟩)) (fun _ => rfl) (fun b γ W h => h) (fun b γ W h _ => by go_simp) ?_
                      refine t_pure (.string (By r.tr)) (fun _ => rfl) (fun b γ W h => h) (fun b γ W h _ => by
                        have y := bel_cell h zz
                        clear zz
                        go_simp) ?_
                      refine t_pure (.bool false) (fun _ => rfl) (fun b γ W h => h) (fun b γ W h _ => by go_simp) ?_
                      refine t_end ?_
                      intro bq gq w8 hall hS
                      (try simp only [Act.put, List.setIfInBounds_toArray, List.set_cons_zero, List.set_cons_succ])
                      have H8 := hid (HPQ.out.later hS)
                      clear hS hall HPQ zz
                      go_wp2_with fail
                      go_roundw
                      case rel => exact ⟨j + 1, by omega, by go_num, ⟨c, r, k2, ⟨a, q, HAG.out, HQG.out, H8.out⟩, HW.out, HK.out.1, by have := HK.out.2; have := HKK.out; omega⟩⟩
                      case measure => simp [intOf]; omega
      · obtain rfl : j = len := by omega
        have u0 : ((j : Int) < j) = False := eq_false (by omega)
        have u1 : decide ((j : Int) < j) = false := decide_eq_false (by omega)
        obtain ⟨c, r, k2, ⟨a, q, rfl, rfl, hpq⟩, hbw, hbn, hk2⟩ := H4.out.ex
        have HPQ := hid hpq
        have HTR := hid (show (⟨(tailOf c.l).toArray⟩ : ByteArray) = By r.tr by
          have hl : c.l.length ≤ 4000 := by rw [hbw.len]; have := HN.out; omega
          rw [show tailOf c.l = c.l by unfold tailOf; rw [show c.l.length - 4000 = 0 by omega]; rfl, hbw.tr]; rfl)
        have HBN := hid (show c.bn ≤ 1000000 by have := HN.out; omega)
        clear hpq hbw hbn hk2 H4 hlt hj
        go_wp2_with fail
        with_reducible refine (wcopy_calls HPQ.out.wm).mono ?_
        rintro y w5 ⟨a', rfl, hw5, hb5⟩
        have HW5 := hid (show Wi w w5 wr.heap.size a'.gw (a'.foot wr.heap.size c.n w5) c from ⟨⟨a', hw5, rfl, fun _ hk => hk⟩, HPQ.out.short⟩)
        have HF := hid (show ∀ i, a'.foot wr.heap.size c.n w5 i → wr.heap.size ≤ i from fun i hi => (hw5.foot_le hi).1)
        have HB5 := hid hb5
        clear hw5 hb5
        generalize a'.gw = g2 at HW5 ⊢
        go_wp2_with fail
        with_reducible refine (wi_step HW5.out true HBN.out).mono ?_
        rintro y w6 ⟨v, F', rfl, _, _, hkp, _⟩
        have H6 := hid (HPQ.out.later (hkp.below HB5.out HB5.out.size HF.out))
        clear HPQ HW5 HF HB5 hkp
        have HPQ := hid H6.out
        clear H6
        have zz : w6.cell? ⟨q.gw, 2, none⟩ = some (.string (By r.tr)) := HPQ.out.rm.top.cell 2
        go_wp2_with fail
        obtain ⟨wz, hwz⟩ : ∃ wz, wz = w6 := ⟨_, rfl⟩
        subst hwz
        refine region_text (by kernel_rfl) (by kernel_rfl) (fun _ _ W => Below wz.heap.size wz W) (Below.refl _ _).drew ?_
        refine t_pure (.pointer (some ⟨a.gw, 0, none⟩)) (fun _ => rfl) (fun b γ W h => h) (fun b γ W h _ => by go_simp) ?_
        refine t_call (.pointer (some ⟨a.gb, 0, none⟩)) (fun _ => rfl) (f := 16) (args := #[.pointer (some ⟨a.gw, 0, none⟩)]) (fun b γ W h _ => by go_simp) (fun b γ W h hb => ?_) ?_
        · refine (bus_wire (HPQ.out.later h).wm).mono ?_
          rintro e w' ⟨k1, rfl⟩
          exact ⟨k1, h⟩
        refine t_call (.string (By r.tr)) (fun _ => rfl) (f := 17) (args := #[.pointer (some ⟨a.gb, 0, none⟩)]) (fun b γ W h _ => by go_simp) (fun b γ W h hb => ?_) ?_
        · have hq := (HPQ.out.later h).wm
          refine (BusW.trace_calls B a.gb a.bv c.l c.bn c.t W hq.bus (by have := hq.ll; omega)).mono ?_
          rintro e w' ⟨k1, k2⟩
          exact ⟨by rw [k1, HTR.out], h.trans (k2.mono h.size)⟩
        refine t_pure (.pointer (some ⟨q.gw, 0, none⟩)) (fun _ => rfl) (fun b γ W h => h) (fun b γ W h _ => by go_simp) ?_
        refine t_pure (.pointer (some ⟨q.gw, 0, none⟩)) (fun _ => rfl) (fun b γ W h => h) (fun b γ W h _ => by go_simp) ?_
        refine t_pure (.pointer (some ⟨q.gw, 2, none⟩)) (fun _ => rfl) (fun b γ W h => h) (fun b γ W h _ => by go_simp) ?_
        refine t_pure (.string (By r.tr)) (fun _ => rfl) (fun b γ W h => h) (fun b γ W h _ => by
          have y := bel_cell h zz
          clear zz
          go_simp) ?_
        refine t_pure (.bool true) (fun _ => rfl) (fun b γ W h => h) (fun b γ W h _ => by go_simp) ?_
        refine t_pure (.bool true) (fun _ => rfl) (fun b γ W h => h) (fun b γ W h _ => by go_simp) ?_
        refine t_end ?_
        intro bq gq w8 hall hS
        (try simp only [Act.put, List.setIfInBounds_toArray, List.set_cons_zero, List.set_cons_succ])
        have H8 := hid (HPQ.out.later hS)
        clear hS hall HPQ zz
        go_wp2_with fail
        go_ret
        exact ⟨rfl, H8.out.wm.below⟩
set_option maxRecDepth 100000
theorem trod_one {H : Type} {enc : TypeId × Value → H} {W : World} {base : Nat} {spare : Nat → Bool} {held : Bool} {n : Nat} {b o i : Nat} {y : DataW H × List MemPlace}
    (h : (W.cells? base ⟨b, o + i * 7, none⟩ 7).bind (DataW.trod enc Tryz.prog W base spare held n 37) = some y) : ∃ s, Ce W b o i s ∧ s.f.wf := by
  rw [Option.bind_eq_some_iff] at h
  obtain ⟨cs, hc, ht⟩ := h
  obtain ⟨_, hl, hcell⟩ := World.cells?_some hc
  obtain ⟨xs, n1, _, _, _, hxl, hf⟩ := DataW.trod_struct Tryz.underlying37 ht
  have hxl : xs.length = 4 := hxl
  obtain ⟨v0, v1, v2, v3, v4, v5, v6, rfl⟩ : ∃ v0 v1 v2 v3 v4 v5 v6, cs = [v0, v1, v2, v3, v4, v5, v6] := by
    match cs, hl with
    | [v0, v1, v2, v3, v4, v5, v6], _ => exact ⟨v0, v1, v2, v3, v4, v5, v6, rfl⟩
  obtain ⟨y0, e0⟩ := WireL.some_at hxl (i := 0) (by decide)
  obtain ⟨y1, e1⟩ := WireL.some_at hxl (i := 1) (by decide)
  obtain ⟨y2, e2⟩ := WireL.some_at hxl (i := 2) (by decide)
  obtain ⟨y3, e3⟩ := WireL.some_at hxl (i := 3) (by decide)
  have f0 : DataW.trod enc Tryz.prog W base spare held n1 3 [v0] = some y0 := (hf 0 _ rfl).trans e0
  have f1 : DataW.trod enc Tryz.prog W base spare held n1 3 [v1] = some y1 := (hf 1 _ rfl).trans e1
  have f2 : DataW.trod enc Tryz.prog W base spare held n1 3 [v2] = some y2 := (hf 2 _ rfl).trans e2
  have f3 : DataW.trod enc Tryz.prog W base spare held n1 35 [v3, v4, v5, v6] = some y3 := (hf 3 _ rfl).trans e3
  obtain ⟨a0, h0, -, _⟩ := DataW.trod_int Tryz.underlying3 f0
  obtain ⟨a1, h1, -, _⟩ := DataW.trod_int Tryz.underlying3 f1
  obtain ⟨a2, h2, -, _⟩ := DataW.trod_int Tryz.underlying3 f2
  obtain ⟨f, h3, h4, h5, h6, hw⟩ := WireL.trod_fr f3
  have h0 : v0 = .int .i64 a0 := by simpa using h0
  have h1 : v1 = .int .i64 a1 := by simpa using h1
  have h2 : v2 = .int .i64 a2 := by simpa using h2
  have get : ∀ k v, k < 7 → [v0, v1, v2, v3, v4, v5, v6][k]? = some v → W.cell? ⟨b, o + i * 7 + k, none⟩ = some v := by
    intro k v hk hv
    have := hcell k hk
    rw [Addr.add_mid] at this
    rw [this, hv]
  refine ⟨⟨a0, a1, a2, f⟩, ⟨?_, ?_, ?_, ?_, ?_, ?_, ?_⟩, hw⟩
  · rw [← h0]; exact get 0 _ (by decide) rfl
  · rw [← h1]; exact get 1 _ (by decide) rfl
  · rw [← h2]; exact get 2 _ (by decide) rfl
  · rw [← h3]; exact get 3 _ (by decide) rfl
  · rw [← h4]; exact get 4 _ (by decide) rfl
  · rw [← h5]; exact get 5 _ (by decide) rfl
  · rw [← h6]; exact get 6 _ (by decide) rfl
theorem steps8_of {H : Type} {enc : TypeId × Value → H} {W : World} {base : Nat} {spare : Nat → Bool} {held : Bool} {fuel : Nat} {A : Option Addr} {len cap : Nat} {x : DataW H × List MemPlace}
    (h : DataW.trod enc Tryz.prog W base spare held fuel 22 [.slice A len cap] = some x) : ∃ S, Ste W A len S := by
  have dflt : SE := ⟨0, 0, 0, Fm.zero⟩
  rcases DataW.trod_slice Tryz.underlying22 h with ⟨hc, _⟩ | ⟨a, len', cap', elems, rest, n, _, hc, _, _, _, _, hlen, hel, _, _⟩
  · simp only [List.cons.injEq, Value.slice.injEq, and_true] at hc
    obtain ⟨_, rfl, _⟩ := hc
    exact ⟨fun _ => dflt, fun j hj => absurd hj (Nat.not_lt_zero _), fun j hj => absurd hj (Nat.not_lt_zero _)⟩
  · simp only [List.cons.injEq, Value.slice.injEq, and_true] at hc
    obtain ⟨rfl, rfl, _⟩ := hc
    have hcl : Tryz.prog.cellsOf 37 = 7 := by kernel_rfl
    rw [hcl] at hel
    by_cases h0 : len = 0
    · subst h0
      exact ⟨fun _ => dflt, fun j hj => absurd hj (Nat.not_lt_zero _), fun j hj => absurd hj (Nat.not_lt_zero _)⟩
    · have hsp : a.spot = none := by
        have := hel 0 (by omega)
        obtain ⟨y, hy⟩ := WireL.some_at hlen (i := 0) (by omega)
        rw [hy, Option.bind_eq_some_iff] at this
        obtain ⟨cs, hc, _⟩ := this
        obtain ⟨_, hl, hcell⟩ := World.cells?_some hc
        obtain ⟨v, hv⟩ := WireL.some_at hl (i := 0) (by decide)
        have := (hcell 0 (by decide)).trans hv
        simpa [Addr.add] using World.cell?_spot this
      obtain ⟨b, o, sp⟩ := a
      simp only at hsp
      subst hsp
      have each : ∀ i, ∃ s, i < len → Ce W b o i s ∧ s.f.wf := by
        intro i
        by_cases hi : i < len
        · have := hel i hi
          obtain ⟨y, hy⟩ := WireL.some_at hlen hi
          rw [hy, Addr.add_mid] at this
          obtain ⟨s, hs⟩ := trod_one this
          exact ⟨s, fun _ => hs⟩
        · exact ⟨dflt, fun h => absurd h hi⟩
      exact ⟨fun i => Classical.choose (each i), fun j hj => ⟨b, o, rfl, (Classical.choose_spec (each j) hj).1⟩, fun j hj => (Classical.choose_spec (each j) hj).2⟩
theorem plays_walk (n : Int) (A : Option Addr) (len cap : Nat) (w : World) {X : Prop} (_ : X) (h : ∃ S, Ste w A len S) : Calls Tryz.prog 3 #[.int .i64 n, .slice A len cap] w fun e w' => e = .returned (.bool true) ∧ Below w.heap.size w w' := by
  obtain ⟨S, h⟩ := h
  exact wplays_calls n A len cap S w h
end Go.Proofs.YtpkpnaedacefaaaGreat.WireQ

