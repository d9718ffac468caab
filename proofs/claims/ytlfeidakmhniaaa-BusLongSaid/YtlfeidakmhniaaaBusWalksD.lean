/- Wires of a call's own: the functions of package bus, as a law's walk asks for them. -/
import Derived.Test.YtlfeidakmhniaaaBusWalksC
namespace Go.Proofs.Ytlfeidakmhniaaa.BusW
set_option linter.unusedVariables false
set_option linter.unusedSimpArgs false
open Go Go.RowKit Go.Proofs.Ytlfeidakmhniaaa.Lib Go.Proofs.YtlfeidakmhniaaaW.PrintMore
attribute [local go_sem] max2_int min2_int max_two min_two

/-- In the world w, which came out of w0, a wire of the call's own lies at g. -/
structure BusAt (w0 w : World) (g : Nat) (l : List UInt8) (n : Nat) (t : Bool) : Prop where
  bus : ∃ v, IsBus w w0.heap.size g v l n t
  below : Below w0.heap.size w0 w
theorem own_ge {w : World} {base : Nat} {e : TypeId} {v : Value} {l : List UInt8} (h : OwnB w base e v l) (k : Nat) (hk : v.ownBlock = some k) : base ≤ k := (World.ownsRow.lt h k hk).1
theorem Kept2.under {w0 w w' : World} {g : Nat} {v : Value} (h : Kept2 w w' g v.ownBlock) (hb : Below w0.heap.size w0 w) (hg : w0.heap.size ≤ g) (hv : ∀ k, v.ownBlock = some k → w0.heap.size ≤ k) : Below w0.heap.size w0 w' :=
  { os := h.os.trans hb.os, tape := h.tape.trans hb.tape, output := h.output.trans hb.output, size := Nat.le_trans hb.size h.size,
    block := fun k hk => (h.block k (Nat.lt_of_lt_of_le hk hb.size) (fun e => by omega) (fun e => by have := hv k e.symm; omega)).trans (hb.block k hk) }
theorem BusAt.later {w0 w w' : World} {g : Nat} {l : List UInt8} {n : Nat} {t : Bool} (h : BusAt w0 w g l n t) (hb : Below w.heap.size w w') : BusAt w0 w' g l n t := by
  obtain ⟨⟨v, h1, h2, h3⟩, h4⟩ := h
  exact ⟨⟨v, h1, h2.below hb, h3.below hb⟩, h4.trans (hb.mono h4.size)⟩
theorem OwnB.lower {w : World} {base base' : Nat} {e : TypeId} {v : Value} {l : List UInt8} (h : OwnB w base e v l) (hb : base' ≤ base) : OwnB w base' e v l := by
  refine ⟨h.1, ?_⟩
  rcases h.2 with hn | ⟨g, cap, cur, rfl, hb2, rest⟩
  · exact .inl hn
  · exact .inr ⟨g, cap, cur, rfl, Nat.le_trans hb hb2, rest⟩

theorem new_bus (w0 w : World) (hb : Below w0.heap.size w0 w) : Calls Try.prog 12 #[] w fun e w' => ∃ g, e = .returned (.pointer (some ⟨g, 0, none⟩)) ∧ BusAt w0 w' g [] 0 false := by
  refine (new_calls w).mono ?_
  rintro e w' ⟨rfl, ⟨h1, h2, h3⟩, h4⟩
  exact ⟨_, rfl, ⟨⟨_, Nat.le_trans hb.size h1, h2, OwnB.lower h3 hb.size⟩, hb.grown h4 hb.size (fun k h => by cases h)⟩⟩
theorem step_bus (w0 w : World) (g : Nat) (l : List UInt8) (n : Nat) (t : Bool) (s : ByteArray) (h : BusAt w0 w g l n t) (hl : l.length < 8000) (hn : n ≤ 1000000) :
    Calls Try.prog 13 #[.pointer (some ⟨g, 0, none⟩), .string s] w fun e w' => e = .returned (.int .u8 ((bitC s t).toNat : Int)) ∧ BusAt w0 w' g (l ++ [bitC s t]) (n + 1) false := by
  obtain ⟨⟨v, hv⟩, hb⟩ := h
  refine (step_small _ g v l n t s w hv hl hn).mono ?_
  rintro e w' ⟨rfl, ⟨v', h1⟩, h2⟩
  exact ⟨rfl, ⟨v', h1⟩, h2.under hb hv.1 (own_ge hv.2.2)⟩
theorem flip_bus (w0 w : World) (g : Nat) (l : List UInt8) (n : Nat) (t : Bool) (h : BusAt w0 w g l n t) :
    Calls Try.prog 16 #[.pointer (some ⟨g, 0, none⟩)] w fun e w' => e = .returned (.tuple #[]) ∧ BusAt w0 w' g l n true := by
  obtain ⟨⟨v, hv⟩, hb⟩ := h
  refine (flip_calls _ g v l n t w hv).mono ?_
  rintro e w' ⟨rfl, h1, h2⟩
  exact ⟨rfl, ⟨v, h1⟩, hb.grown h2 hb.size (fun k h => by cases h; exact hv.1)⟩
theorem len_bus (w0 w : World) (g : Nat) (l : List UInt8) (n : Nat) (t : Bool) (h : BusAt w0 w g l n t) :
    Calls Try.prog 15 #[.pointer (some ⟨g, 0, none⟩)] w fun e w' => e = .returned (.int .i64 n) ∧ BusAt w0 w' g l n t := by
  obtain ⟨⟨v, hv⟩, hb⟩ := h
  refine (len_calls _ g v l n t w hv).mono ?_
  rintro e w' ⟨rfl, rfl⟩
  exact ⟨rfl, ⟨v, hv⟩, hb⟩
theorem trace_bus (w0 w : World) (g : Nat) (l : List UInt8) (n : Nat) (t : Bool) (h : BusAt w0 w g l n t) (hl : l.length ≤ 1000000) :
    Calls Try.prog 14 #[.pointer (some ⟨g, 0, none⟩)] w fun e w' => e = .returned (.string ⟨(tailOf l).toArray⟩) ∧ BusAt w0 w' g l n t := by
  obtain ⟨v, hv⟩ := h.bus
  refine (trace_calls _ g v l n t w hv hl).mono ?_
  rintro e w' ⟨rfl, h1⟩
  exact ⟨rfl, h.later h1⟩

set_option maxRecDepth 100000 in
set_option maxHeartbeats 3200000 in
theorem known_calls (w : World) : Calls Try.prog 11 #[] w fun e w' => e = .returned (.bool true) ∧ Below w.heap.size w w' := by
  have HB := Below.refl w.heap.size w
  go_enter Try.func11, Try.ntmps11
  go_wp2_with (first
    | (go_at_call 12; refine (new_bus w _ HB).mono ?_; rintro e w1 ⟨g, rfl, HU⟩; clear HB)
    | (go_at_call 13; refine (step_bus _ _ _ _ _ _ _ HU (by simp) (by simp)).mono ?_; rintro e w1 ⟨rfl, hn0⟩; clear HU; have HU := hn0; clear hn0)
    | (go_at_call 16; refine (flip_bus _ _ _ _ _ _ HU).mono ?_; rintro e w1 ⟨rfl, hn0⟩; clear HU; have HU := hn0; clear hn0)
    | (go_at_call 15; refine (len_bus _ _ _ _ _ _ HU).mono ?_; rintro e w1 ⟨rfl, hn0⟩; clear HU; have HU := hn0; clear hn0)
    | (go_at_call 14; refine (trace_bus _ _ _ _ _ _ HU (by simp)).mono ?_; rintro e w1 ⟨rfl, hn0⟩; clear HU; have HU := hn0; clear hn0))
  go_ret
  exact ⟨rfl, HU.below⟩
end Go.Proofs.Ytlfeidakmhniaaa.BusW
