/- Two wires, continued: a wire goes on while its copy waits, then the copy. -/
import Derived.Test.YtlfeidakmhniaaaBusWalksF
namespace Go.Proofs.Ytlfeidakmhniaaa.BusW
set_option linter.unusedVariables false
set_option linter.unusedSimpArgs false
open Go Go.RowKit Go.Proofs.Ytlfeidakmhniaaa.Lib Go.Proofs.YtlfeidakmhniaaaW.PrintMore

/-- A row of the call's own that is longer than a whole block lies elsewhere. -/
theorem own_longer {w : World} {base r : Nat} {e T : TypeId} {v : Value} {l : List UInt8} {cs : List Value} (h : OwnB w base e v l) (hb : Blk w r T cs) (hl : cs.length < l.length) : v.ownBlock ≠ some r := by
  rcases h.2 with ⟨rfl, _⟩ | ⟨g, cap, cur, rfl, _, hg, hle, _, hs, _⟩
  · simp [Value.ownBlock]
  · intro e2
    simp only [Value.ownBlock, Option.some.injEq] at e2
    subst e2
    unfold Blk at hb
    rw [hg] at hb
    simp only [Option.some.injEq, Obj.cells.injEq] at hb
    have := congrArg Array.size hb.1
    simp at this
    omega

/-- A wire at g and its copy at c, no row of the one being the other's. -/
structure Apart (w0 w : World) (g c : Nat) (l : List UInt8) (n : Nat) (t : Bool) (l' : List UInt8) (n' : Nat) (t' : Bool) : Prop where
  one : ∃ v u, IsBus w w0.heap.size g v l n t ∧ IsBus w w0.heap.size c u l' n' t' ∧ g ≠ c ∧ (∀ k, u.ownBlock = some k → k ≠ g ∧ v.ownBlock ≠ some k) ∧ v.ownBlock ≠ some c
  below : Below w0.heap.size w0 w
section
variable {w0 w w' : World} {g c : Nat} {l l' : List UInt8} {n n' : Nat} {t t' : Bool}
theorem Apart.fst (h : Apart w0 w g c l n t l' n' t') : BusAt w0 w g l n t := by
  obtain ⟨v, u, h1, _⟩ := h.one
  exact ⟨⟨v, h1⟩, h.below⟩
theorem Apart.snd (h : Apart w0 w g c l n t l' n' t') : BusAt w0 w c l' n' t' := by
  obtain ⟨v, u, _, h1, _⟩ := h.one
  exact ⟨⟨u, h1⟩, h.below⟩
theorem Apart.later (h : Apart w0 w g c l n t l' n' t') (hb : Below w.heap.size w w') : Apart w0 w' g c l n t l' n' t' := by
  obtain ⟨⟨v, u, ⟨a1, a2, a3⟩, ⟨b1, b2, b3⟩, h3⟩, h4⟩ := h
  exact ⟨⟨v, u, ⟨a1, a2.below hb, a3.below hb⟩, ⟨b1, b2.below hb, b3.below hb⟩, h3⟩, h4.trans (hb.mono h4.size)⟩
/-- The copy's bit: the wire stays. -/
theorem step_apart (s : ByteArray) (h : Apart w0 w g c l n t l' n' t') (hl : l'.length < 8000) (hn : n' ≤ 1000000) :
    Calls Try.prog 13 #[.pointer (some ⟨c, 0, none⟩), .string s] w fun e w' => e = .returned (.int .u8 ((bitC s t').toNat : Int)) ∧ BusAt w0 w' g l n t := by
  obtain ⟨⟨v, u, ⟨a1, a2, a3⟩, hu, h1, h2, h3⟩, h4⟩ := h
  refine (step_small _ c u l' n' t' s w hu hl hn).mono ?_
  rintro e w' ⟨rfl, _, b2⟩
  refine ⟨rfl, ⟨v, a1, b2.blk a2 h1 (fun e => (h2 g e.symm).1 rfl), b2.own a3 (fun k hk => ⟨fun e => h3 (by rw [hk, e]), fun e => (h2 k e.symm).2 hk⟩)⟩, b2.under h4 hu.1 (own_ge hu.2.2)⟩
/-- A wire at g and at c its copy, just made: the copy's row is a block as long as it. -/
structure Copied (w0 w : World) (g c : Nat) (l : List UInt8) (n : Nat) (t : Bool) : Prop where
  one : ∃ v r, IsBus w w0.heap.size g v l n t ∧ w0.heap.size ≤ c ∧ w0.heap.size ≤ r ∧ Blk w c 45 [.slice (some ⟨r, 0, none⟩) l.length l.length, .int .i64 n, .bool t] ∧ Blk w r 5 (byteVs l) ∧ g ≠ c ∧ r ≠ g ∧ r ≠ c ∧ v.ownBlock ≠ some r ∧ v.ownBlock ≠ some c
  len : l.length ≤ 1000000
  below : Below w0.heap.size w0 w
theorem copy_copied (h : BusAt w0 w g l n t) (hl : l.length ≤ 1000000) : Calls Try.prog 27 #[.pointer (some ⟨g, 0, none⟩)] w fun e w' => ∃ c, e = .returned (.pointer (some ⟨c, 0, none⟩)) ∧ Copied w0 w' g c l n t := by
  obtain ⟨⟨v, hv⟩, hb⟩ := h
  refine (copy_calls _ g v l n t w hv hl).mono ?_
  rintro e w' ⟨rfl, ⟨r, h1, h2, h3⟩, h4⟩
  have hgl := hv.2.1.lt
  have hlt := fun k hk => (World.ownsRow.lt hv.2.2 k hk).2
  have hs := hb.size
  refine ⟨_, rfl, ⟨v, r, ⟨hv.1, hv.2.1.below h4, hv.2.2.below h4⟩, hs, by omega, h2, h3, by omega, by omega, by omega, fun e => ?_, fun e => ?_⟩, hl, hb.trans (h4.mono hs)⟩
  · have := hlt r e; omega
  · have := hlt _ e; omega
theorem Copied.fst (h : Copied w0 w g c l n t) : BusAt w0 w g l n t := by
  obtain ⟨v, r, h1, _⟩ := h.one
  exact ⟨⟨v, h1⟩, h.below⟩
/-- The wire's bit: the copy stays. -/
theorem step_copied (s : ByteArray) (h : Copied w0 w g c l n t) (hl : l.length < 8000) (hn : n ≤ 1000000) :
    Calls Try.prog 13 #[.pointer (some ⟨g, 0, none⟩), .string s] w fun e w' => e = .returned (.int .u8 ((bitC s t).toNat : Int)) ∧ Apart w0 w' g c (l ++ [bitC s t]) (n + 1) false l n t := by
  obtain ⟨⟨v, r, hv, h1, h2, h3, h4, h5, h6, h7, h8, h9⟩, h10, h11⟩ := h
  refine (step_small _ g v l n t s w hv hl hn).mono ?_
  rintro e w' ⟨rfl, ⟨v', c1⟩, c2⟩
  have hc := c2.blk h3 (fun e => h5 e.symm) (fun e => h9 e.symm)
  have hr := c2.blk h4 h6 (fun e => h8 e.symm)
  refine ⟨rfl, ⟨v', .slice (some ⟨r, 0, none⟩) l.length l.length, c1, ⟨h1, hc, Blk.own hr h2 (by rw [byteVs_length]) (by unfold maxLen; omega)⟩, h5, fun k hk => ?_, c1.2.2.ne hc (by decide)⟩, c2.under h11 hv.1 (own_ge hv.2.2)⟩
  obtain rfl : r = k := by simpa [Value.ownBlock] using hk
  exact ⟨h6, own_longer c1.2.2 hr (by rw [byteVs_length]; simp)⟩
end
end Go.Proofs.Ytlfeidakmhniaaa.BusW
