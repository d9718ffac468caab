/- Rows of frames and of bytes as a law's arguments. -/
import Derived.Test.YtpkpnaedacefaaaWireH
import Derived.ChangeArms
import Derived.DataReads
namespace Go.Proofs.Ytpkpnaedacefaaa.WireL
set_option linter.unusedVariables false
set_option linter.unusedSimpArgs false
open Go Go.RowKit Go.Proofs.Ytpkpnaedacefaaa.Lib Go.Proofs.Ytpkpnaedacefaaa.Mac Go.Proofs.Ytpkpnaedacefaaa.MacW
/-- Frame number j of a row of the caller's. -/
structure Fr1 (W : World) (b o j : Nat) (f : Fm) : Prop where
  x0 : W.cell? ⟨b, o + j * 4, none⟩ = some (.bool f.e)
  x1 : W.cell? ⟨b, o + j * 4 + 1, none⟩ = some (.int .u32 f.i)
  x2 : W.cell? ⟨b, o + j * 4 + 2, none⟩ = some (.bool f.r)
  x3 : W.cell? ⟨b, o + j * 4 + 3, none⟩ = some (.string f.d)
theorem Fr1.at {w W : World} {b o j : Nat} {f : Fm} (h : Fr1 w b o j f) (hb : Below w.heap.size w W) : Fr1 W b o j f := by
  have k : ∀ i v, w.cell? ⟨b, i, none⟩ = some v → W.cell? ⟨b, i, none⟩ = some v := fun i v h => (hb.cell (World.block_lt_of_cell? w _ h)).trans h
  exact ⟨k _ _ h.x0, k _ _ h.x1, k _ _ h.x2, k _ _ h.x3⟩
structure Frs (w : World) (A : Option Addr) (n : Nat) (S : Nat → Fm) : Prop where
  get : ∀ j, j < n → ∃ b o, A = some ⟨b, o, none⟩ ∧ Fr1 w b o j (S j)
  wf : ∀ j, j < n → (S j).wf
structure Bys (w : World) (A : Option Addr) (n : Nat) (S : Nat → Int) : Prop where
  get : ∀ j, j < n → ∃ b o, A = some ⟨b, o, none⟩ ∧ w.cell? ⟨b, o + j, none⟩ = some (.int .u8 (S j))
  lo : ∀ j, j < n → 0 ≤ S j ∧ S j < 256
set_option maxRecDepth 100000
theorem some_at {α : Type} {xs : List α} {n i : Nat} (h : xs.length = n) (hi : i < n) : ∃ y, xs[i]? = some y := ⟨_, List.getElem?_eq_getElem (by omega)⟩
theorem trod_fr {H : Type} {enc : TypeId × Value → H} {W : World} {base : Nat} {spare : Nat → Bool} {held : Bool} {n : Nat} {v1 v2 v3 v4 : Value} {y : DataW H × List MemPlace}
    (ht : DataW.trod enc Try.prog W base spare held n 24 [v1, v2, v3, v4] = some y) : ∃ f : Fm, v1 = .bool f.e ∧ v2 = .int .u32 f.i ∧ v3 = .bool f.r ∧ v4 = .string f.d ∧ f.wf := by
  obtain ⟨xs, n1, _, _, _, hxl, hf⟩ := DataW.trod_struct Try.underlying24 ht
  have hxl : xs.length = 4 := hxl
  obtain ⟨y0, e0⟩ := some_at hxl (i := 0) (by decide)
  obtain ⟨y1, e1⟩ := some_at hxl (i := 1) (by decide)
  obtain ⟨y2, e2⟩ := some_at hxl (i := 2) (by decide)
  obtain ⟨y3, e3⟩ := some_at hxl (i := 3) (by decide)
  have f0 : DataW.trod enc Try.prog W base spare held n1 4 [v1] = some y0 := (hf 0 _ rfl).trans e0
  have f1 : DataW.trod enc Try.prog W base spare held n1 22 [v2] = some y1 := (hf 1 _ rfl).trans e1
  have f2 : DataW.trod enc Try.prog W base spare held n1 4 [v3] = some y2 := (hf 2 _ rfl).trans e2
  have f3 : DataW.trod enc Try.prog W base spare held n1 9 [v4] = some y3 := (hf 3 _ rfl).trans e3
  obtain ⟨a, h0, -⟩ := DataW.trod_bool Try.underlying4 f0
  obtain ⟨i, h1, -, w1⟩ := DataW.trod_int Try.underlying22 f1
  obtain ⟨r, h2, -⟩ := DataW.trod_bool Try.underlying4 f2
  obtain ⟨s, h3, -, _⟩ := DataW.trod_string Try.underlying9 f3
  refine ⟨⟨a, i, r, s⟩, by simpa using h0, by simpa using h1, by simpa using h2, by simpa using h3, ?_⟩
  simp [Lit.wf, IntKind.min, IntKind.max, IntKind.signed, IntKind.bits] at w1
  show 0 ≤ i ∧ i < 4294967296
  omega
theorem trod_f1 {H : Type} {enc : TypeId × Value → H} {W : World} {base : Nat} {spare : Nat → Bool} {held : Bool} {n : Nat} {b o i : Nat} {y : DataW H × List MemPlace}
    (h : (W.cells? base ⟨b, o + i * 4, none⟩ 4).bind (DataW.trod enc Try.prog W base spare held n 24) = some y) : ∃ f, Fr1 W b o i f ∧ f.wf := by
  rw [Option.bind_eq_some_iff] at h
  obtain ⟨cs, hc, ht⟩ := h
  obtain ⟨_, hl, hcell⟩ := World.cells?_some hc
  obtain ⟨v0, v1, v2, v3, rfl⟩ : ∃ v0 v1 v2 v3, cs = [v0, v1, v2, v3] := by
    match cs, hl with
    | [v0, v1, v2, v3], _ => exact ⟨v0, v1, v2, v3, rfl⟩
  obtain ⟨f, h0, h1, h2, h3, hw⟩ := trod_fr ht
  have get : ∀ k v, k < 4 → [v0, v1, v2, v3][k]? = some v → W.cell? ⟨b, o + i * 4 + k, none⟩ = some v := by
    intro k v hk hv
    have := hcell k hk
    rw [Addr.add_mid] at this
    rw [this, hv]
  refine ⟨f, ⟨?_, ?_, ?_, ?_⟩, hw⟩
  · rw [← h0]; exact get 0 _ (by decide) rfl
  · rw [← h1]; exact get 1 _ (by decide) rfl
  · rw [← h2]; exact get 2 _ (by decide) rfl
  · rw [← h3]; exact get 3 _ (by decide) rfl
theorem frs_of {H : Type} {enc : TypeId × Value → H} {W : World} {base : Nat} {spare : Nat → Bool} {held : Bool} {fuel : Nat} {A : Option Addr} {len cap : Nat} {x : DataW H × List MemPlace}
    (h : DataW.trod enc Try.prog W base spare held fuel 37 [.slice A len cap] = some x) : ∃ S, Frs W A len S := by
  rcases DataW.trod_slice Try.underlying37 h with ⟨hc, _⟩ | ⟨a, len', cap', elems, rest, n, _, hc, _, _, _, _, hlen, hel, _, _⟩
  · simp only [List.cons.injEq, Value.slice.injEq, and_true] at hc
    obtain ⟨_, rfl, _⟩ := hc
    exact ⟨fun _ => Fm.zero, fun j hj => absurd hj (Nat.not_lt_zero _), fun j hj => absurd hj (Nat.not_lt_zero _)⟩
  · simp only [List.cons.injEq, Value.slice.injEq, and_true] at hc
    obtain ⟨rfl, rfl, _⟩ := hc
    have hcl : Try.prog.cellsOf 24 = 4 := by kernel_rfl
    rw [hcl] at hel
    by_cases h0 : len = 0
    · subst h0
      exact ⟨fun _ => Fm.zero, fun j hj => absurd hj (Nat.not_lt_zero _), fun j hj => absurd hj (Nat.not_lt_zero _)⟩
    · have hsp : a.spot = none := by
        have := hel 0 (by omega)
        obtain ⟨y, hy⟩ := some_at hlen (i := 0) (by omega)
        rw [hy, Option.bind_eq_some_iff] at this
        obtain ⟨cs, hc, _⟩ := this
        obtain ⟨_, hl, hcell⟩ := World.cells?_some hc
        obtain ⟨v, hv⟩ := some_at hl (i := 0) (by decide)
        have := (hcell 0 (by decide)).trans hv
        simpa [Addr.add] using World.cell?_spot this
      obtain ⟨b, o, sp⟩ := a
      simp only at hsp
      subst hsp
      have each : ∀ i, ∃ s, i < len → Fr1 W b o i s ∧ s.wf := by
        intro i
        by_cases hi : i < len
        · have := hel i hi
          obtain ⟨y, hy⟩ := some_at hlen hi
          rw [hy, Addr.add_mid] at this
          obtain ⟨s, hs⟩ := trod_f1 this
          exact ⟨s, fun _ => hs⟩
        · exact ⟨Fm.zero, fun h => absurd h hi⟩
      exact ⟨fun i => Classical.choose (each i), fun j hj => ⟨b, o, rfl, (Classical.choose_spec (each j) hj).1⟩, fun j hj => (Classical.choose_spec (each j) hj).2⟩
theorem bys_of {H : Type} {enc : TypeId × Value → H} {W : World} {base : Nat} {spare : Nat → Bool} {held : Bool} {fuel : Nat} {A : Option Addr} {len cap : Nat} {x : DataW H × List MemPlace}
    (h : DataW.trod enc Try.prog W base spare held fuel 38 [.slice A len cap] = some x) : ∃ S, Bys W A len S := by
  rcases DataW.trod_slice Try.underlying38 h with ⟨hc, _⟩ | ⟨a, len', cap', elems, rest, n, _, hc, _, _, _, _, hlen, hel, _, _⟩
  · simp only [List.cons.injEq, Value.slice.injEq, and_true] at hc
    obtain ⟨_, rfl, _⟩ := hc
    exact ⟨fun _ => 0, fun j hj => absurd hj (Nat.not_lt_zero _), fun j hj => absurd hj (Nat.not_lt_zero _)⟩
  · simp only [List.cons.injEq, Value.slice.injEq, and_true] at hc
    obtain ⟨rfl, rfl, _⟩ := hc
    have hcl : Try.prog.cellsOf 5 = 1 := by kernel_rfl
    rw [hcl] at hel
    have one : ∀ i, i < len → ∃ v, W.cell? (a.add (i * 1)) = some v ∧ ∃ x, v = .int .u8 x ∧ 0 ≤ x ∧ x < 256 := by
      intro i hi
      have := hel i hi
      obtain ⟨y, hy⟩ := some_at hlen hi
      rw [hy, Option.bind_eq_some_iff] at this
      obtain ⟨cs, hc, ht⟩ := this
      obtain ⟨_, hl, hcell⟩ := World.cells?_some hc
      obtain ⟨v, rfl⟩ : ∃ v, cs = [v] := by
        match cs, hl with
        | [v], _ => exact ⟨v, rfl⟩
      obtain ⟨z, hz, -, wz⟩ := DataW.trod_int Try.underlying5 ht
      have hz : v = .int .u8 z := by simpa using hz
      simp [Lit.wf, IntKind.min, IntKind.max, IntKind.signed, IntKind.bits] at wz
      have h0 : W.cell? ((a.add (i * 1)).add 0) = some v := hcell 0 (by decide)
      have e0 : (a.add (i * 1)).add 0 = a.add (i * 1) := by unfold Addr.add; simp
      rw [e0] at h0
      exact ⟨v, h0, z, hz, by omega, by omega⟩
    by_cases h0 : len = 0
    · subst h0
      exact ⟨fun _ => 0, fun j hj => absurd hj (Nat.not_lt_zero _), fun j hj => absurd hj (Nat.not_lt_zero _)⟩
    · have hsp : a.spot = none := by
        obtain ⟨v, hv, _⟩ := one 0 (by omega)
        simpa [Addr.add] using World.cell?_spot hv
      obtain ⟨b, o, sp⟩ := a
      simp only at hsp
      subst hsp
      have each : ∀ i, ∃ x, i < len → W.cell? ⟨b, o + i, none⟩ = some (.int .u8 x) ∧ 0 ≤ x ∧ x < 256 := by
        intro i
        by_cases hi : i < len
        · obtain ⟨v, hv, x, rfl, hx⟩ := one i hi
          rw [Addr.add_mid, Nat.mul_one] at hv
          exact ⟨x, fun _ => ⟨hv, hx⟩⟩
        · exact ⟨0, fun h => absurd h hi⟩
      exact ⟨fun i => Classical.choose (each i), fun j hj => ⟨b, o, rfl, (Classical.choose_spec (each j) hj).1⟩, fun j hj => (Classical.choose_spec (each j) hj).2⟩
end Go.Proofs.Ytpkpnaedacefaaa.WireL
