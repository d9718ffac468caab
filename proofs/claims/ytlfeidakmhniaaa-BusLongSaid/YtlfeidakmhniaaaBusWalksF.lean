/- Two wires of a call's own: one and its copy. -/
import Derived.Test.YtlfeidakmhniaaaBusWalksE
namespace Go.Proofs.Ytlfeidakmhniaaa.BusW
set_option linter.unusedVariables false
set_option linter.unusedSimpArgs false
open Go Go.RowKit Go.Proofs.Ytlfeidakmhniaaa.Lib Go.Proofs.YtlfeidakmhniaaaW.PrintMore

/-- A wire at g, its copy at c: all that the copy has lies from B on, all that the wire has below. -/
structure Two (w0 w : World) (B g c : Nat) (l : List UInt8) (n : Nat) (t : Bool) (l' : List UInt8) (n' : Nat) (t' : Bool) : Prop where
  base : w0.heap.size ≤ B
  one : ∃ v, IsBus w w0.heap.size g v l n t ∧ g < B ∧ ∀ k, v.ownBlock = some k → k < B
  two : ∃ v, IsBus w B c v l' n' t'
  below : Below w0.heap.size w0 w
theorem Kept2.blk {w w' : World} {g k : Nat} {r : Option Nat} {T : TypeId} {cs : List Value} (h : Kept2 w w' g r) (hb : Blk w k T cs) (hg : k ≠ g) (hr : some k ≠ r) : Blk w' k T cs := (h.block k hb.lt hg hr).trans hb
theorem Kept2.own {w w' : World} {g base : Nat} {r : Option Nat} {e : TypeId} {v : Value} {l : List UInt8} (h : Kept2 w w' g r) (ho : OwnB w base e v l) (hk : ∀ k, v.ownBlock = some k → k ≠ g ∧ some k ≠ r) : OwnB w' base e v l := by
  refine ⟨ho.1, ?_⟩
  rcases ho.2 with hn | ⟨gr, cap, cur, rfl, hb2, hg2, rest⟩
  · exact .inl hn
  · have := hk gr rfl
    exact .inr ⟨gr, cap, cur, rfl, hb2, (h.block gr (Array.getElem?_eq_some_iff.1 hg2).1 this.1 this.2).trans hg2, rest⟩
theorem IsBus.low {w : World} {base base' g : Nat} {v : Value} {l : List UInt8} {n : Int} {t : Bool} (h : IsBus w base g v l n t) (hb : base' ≤ base) : IsBus w base' g v l n t := ⟨Nat.le_trans hb h.1, h.2.1, OwnB.lower h.2.2 hb⟩
section
variable {w0 w w' : World} {B g c : Nat} {l l' : List UInt8} {n n' : Nat} {t t' : Bool}
theorem Two.fst (h : Two w0 w B g c l n t l' n' t') : BusAt w0 w g l n t := by
  obtain ⟨v, h1, _⟩ := h.one
  exact ⟨⟨v, h1⟩, h.below⟩
theorem Two.snd (h : Two w0 w B g c l n t l' n' t') : BusAt w0 w c l' n' t' := by
  obtain ⟨v, h1⟩ := h.two
  exact ⟨⟨v, h1.low h.base⟩, h.below⟩
theorem Two.later (h : Two w0 w B g c l n t l' n' t') (hb : Below w.heap.size w w') : Two w0 w' B g c l n t l' n' t' := by
  obtain ⟨h0, ⟨v, ⟨a1, a2, a3⟩, a4⟩, ⟨u, ⟨b1, b2, b3⟩⟩, h4⟩ := h
  exact ⟨h0, ⟨v, ⟨a1, a2.below hb, a3.below hb⟩, a4⟩, ⟨u, ⟨b1, b2.below hb, b3.below hb⟩⟩, h4.trans (hb.mono h4.size)⟩

theorem copy_bus (h : BusAt w0 w g l n t) (hl : l.length ≤ 1000000) : Calls Try.prog 27 #[.pointer (some ⟨g, 0, none⟩)] w fun e w' => ∃ c, e = .returned (.pointer (some ⟨c, 0, none⟩)) ∧ Two w0 w' w.heap.size g c l n t l n t := by
  obtain ⟨⟨v, hv⟩, hb⟩ := h
  refine (copy_calls _ g v l n t w hv hl).mono ?_
  rintro e w' ⟨rfl, ⟨r, h1, h2, h3⟩, h4⟩
  refine ⟨_, rfl, hb.size, ⟨v, ⟨hv.1, hv.2.1.below h4, hv.2.2.below h4⟩, hv.2.1.lt, fun k hk => (World.ownsRow.lt hv.2.2 k hk).2⟩, ⟨_, Nat.le_refl _, h2, ?_⟩, hb.trans (h4.mono hb.size)⟩
  exact Blk.own h3 (by omega) (by rw [byteVs_length]) (by unfold maxLen; omega)
theorem step_two (s : ByteArray) (h : Two w0 w B g c l n t l' n' t') (hl : l'.length < 8000) (hn : n' ≤ 1000000) :
    Calls Try.prog 13 #[.pointer (some ⟨c, 0, none⟩), .string s] w fun e w' => e = .returned (.int .u8 ((bitC s t').toNat : Int)) ∧ Two w0 w' B g c l n t (l' ++ [bitC s t']) (n' + 1) false := by
  obtain ⟨h0, ⟨v, ⟨a1, a2, a3⟩, a4, a5⟩, ⟨u, hu⟩, h4⟩ := h
  refine (step_small B c u l' n' t' s w hu hl hn).mono ?_
  rintro e w' ⟨rfl, ⟨u', b1⟩, b2⟩
  have hge := own_ge hu.2.2
  refine ⟨rfl, h0, ⟨v, ⟨a1, b2.blk a2 (by have := hu.1; omega) (fun e => by have := hge g e.symm; omega), b2.own a3 (fun k hk => ?_)⟩, a4, a5⟩, ⟨u', b1⟩, b2.under h4 (by have := hu.1; omega) (fun k hk => by have := hge k hk; omega)⟩
  have := a5 k hk
  exact ⟨by have := hu.1; omega, fun e => by have := hge k e.symm; omega⟩
theorem step_one (s : ByteArray) (h : Two w0 w B g c l n t l' n' t') (hl : l.length < 8000) (hn : n ≤ 1000000) :
    Calls Try.prog 13 #[.pointer (some ⟨g, 0, none⟩), .string s] w fun e w' => e = .returned (.int .u8 ((bitC s t).toNat : Int)) ∧ BusAt w0 w' g (l ++ [bitC s t]) (n + 1) false ∧ BusAt w0 w' c l' n' t' := by
  obtain ⟨h0, ⟨v, hv, a4, a5⟩, ⟨u, b1, b2, b3⟩, h4⟩ := h
  refine (step_small _ g v l n t s w hv hl hn).mono ?_
  rintro e w' ⟨rfl, ⟨v', c1⟩, c2⟩
  have hbl := c2.under h4 hv.1 (own_ge hv.2.2)
  have hge := own_ge b3
  refine ⟨rfl, ⟨⟨v', c1⟩, hbl⟩, ⟨u, Nat.le_trans h0 b1, c2.blk b2 (by omega) (fun e => by have := a5 c e.symm; omega), OwnB.lower (c2.own b3 (fun k hk => ?_)) h0⟩, hbl⟩
  have := hge k hk
  exact ⟨by omega, fun e => by have := a5 k e.symm; omega⟩
theorem trace_any (h : BusAt w0 w g l n t) (hl : l.length ≤ 1000000) :
    Calls Try.prog 14 #[.pointer (some ⟨g, 0, none⟩)] w fun e w' => e = .returned (.string ⟨(tailOf l).toArray⟩) ∧ Below w.heap.size w w' := by
  obtain ⟨v, hv⟩ := h.bus
  exact trace_calls _ g v l n t w hv hl
theorem len_any (h : BusAt w0 w g l n t) : Calls Try.prog 15 #[.pointer (some ⟨g, 0, none⟩)] w fun e w' => e = .returned (.int .i64 n) ∧ w = w' := by
  obtain ⟨v, hv⟩ := h.bus
  exact len_calls _ g v l n t w hv
end
end Go.Proofs.Ytlfeidakmhniaaa.BusW
