/- The walks of package bus: a wire's memory, its functions. -/
import Derived.Test.YtpkpnaedacefaaaGreatProg
import Derived.Test.YtpkpnaedacefaaaGreatRegion
import Derived.Test.YtpkpnaedacefaaaGreatMem
import Derived.Test.YtpkpnaedacefaaaGreatWords
import Derived.Tactics
import Derived.LoopTactic
import Derived.WalkKit
import Derived.KernelRfl
import Derived.RowKit
import Derived.Lib.Bytealg
import Derived.StillTactics
namespace Go.Proofs.YtpkpnaedacefaaaGreat.BusW
set_option linter.unusedVariables false
set_option linter.unusedSimpArgs false
open Go Go.RowKit Go.Proofs.YtpkpnaedacefaaaGreat.Lib Go.Proofs.YtpkpnaedacefaaaGreat.PrintMore
attribute [local go_sem] max2_int min2_int max_two min_two

theorem info_u8 : (Tryz.prog.info? 5).map (fun i => (i.zero, i.size, i.bytes)) = some (some (.int .u8 0), 1, 1) := by kernel_rfl

set_option maxRecDepth 100000 in
set_option maxHeartbeats 1600000 in
theorem lite_calls (s : ByteArray) (c : Int) (w : World) :
    Calls Tryz.prog 53 #[.string s, .int .u8 c] w fun e w' => e = .returned (.int .i64 (Go.Lib.indexByte s.data.toList c.toNat.toUInt8)) ∧ w' = w := by
  go_enter Tryz.func53, Tryz.ntmps53
  go_wp2
  rw [run_callFunc_extern Tryz.func77 (by kernel_rfl) (by kernel_rfl) (by kernel_rfl) (e := Extern.BytealgIndexByte.indexByte) (by kernel_rfl), Go.Lib.run_indexByteString]
  simp only [Result.andThen]
  rw [Oper.upon_value]
  go_wp2
  go_ret
  exact ⟨rfl, rfl⟩
set_option maxRecDepth 100000 in
set_option maxHeartbeats 1600000 in
theorem index_calls (s : ByteArray) (c : Int) (w : World) :
    Calls Tryz.prog 38 #[.string s, .int .u8 c] w fun e w' => e = .returned (.int .i64 (Go.Lib.indexByte s.data.toList c.toNat.toUInt8)) ∧ w' = w := by
  go_enter Tryz.func38, Tryz.ntmps38
  go_wp2_with (go_at_call 53; refine (lite_calls _ _ _).mono ?_; rintro e w' ⟨rfl, rfl⟩)
  go_ret
  exact ⟨rfl, rfl⟩
theorem index_has (l : List UInt8) (c : UInt8) : decide (Go.Lib.indexByte l c ≥ 0) = l.contains c := by
  induction l with
  | nil => rfl
  | cons b l ih =>
    unfold Go.Lib.indexByte
    have hge := Go.Lib.indexByte_ge l c
    by_cases hb : (b == c) = true
    · rw [if_pos hb]
      have : c == b := by rw [beq_iff_eq] at hb ⊢; exact hb.symm
      rw [List.contains_cons, this, Bool.true_or]
      rfl
    · rw [if_neg hb]
      have : (c == b) = false := by
        cases h : (c == b)
        · rfl
        · rw [beq_iff_eq] at h; exact absurd (by rw [h]; exact beq_self_eq_true b) hb
      rw [List.contains_cons, this, Bool.false_or, ← ih]
      by_cases h1 : (Go.Lib.indexByte l c == -1) = true
      · rw [if_pos h1]
        rw [beq_iff_eq] at h1
        rw [h1]
      · rw [if_neg h1]
        have : Go.Lib.indexByte l c ≠ -1 := fun h => h1 (by rw [h]; rfl)
        congr 1
        apply propext
        omega

/-- A wire at g: its bits kept, their number, whether the next one is turned. The rows lie from base on. -/
def IsBus (w : World) (base g : Nat) (v : Value) (l : List UInt8) (n : Int) (t : Bool) : Prop :=
  base ≤ g ∧ Blk w g 86 [v, .int .i64 n, .bool t] ∧ OwnB w base 5 v l
/-- What a call on the wire g may change: its block, the row of its bits. -/
structure Kept2 (w w' : World) (g : Nat) (r : Option Nat) : Prop where
  os : w'.os = w.os
  tape : w'.tape = w.tape
  output : w'.output = w.output
  size : w.heap.size ≤ w'.heap.size
  block : ∀ k, k < w.heap.size → k ≠ g → some k ≠ r → w'.heap[k]? = w.heap[k]?

set_option maxRecDepth 100000 in
set_option maxHeartbeats 1600000 in
theorem new_calls (w : World) : Calls Tryz.prog 19 #[] w fun e w' => e = .returned (.pointer (some ⟨w.heap.size, 0, none⟩)) ∧ IsBus w' w.heap.size w.heap.size (.slice none 0 0) [] 0 false ∧ w.grownBy w' none := by
  go_enter Tryz.func19, Tryz.ntmps19
  go_wp2
  go_ret
  exact ⟨rfl, ⟨Nat.le_refl _, Blk.new w _ _, OwnB.nil _ _ _⟩, grown_alloc (grown_refl _ _) _⟩

set_option maxRecDepth 100000 in
set_option maxHeartbeats 1600000 in
theorem flip_calls (base g : Nat) (v : Value) (l : List UInt8) (n : Int) (t : Bool) (w : World) (h : IsBus w base g v l n t) :
    Calls Tryz.prog 25 #[.pointer (some ⟨g, 0, none⟩)] w fun e w' => e = .returned (.tuple #[]) ∧ IsBus w' base g v l n true ∧ w.grownBy w' (some g) := by
  obtain ⟨h1, h2, h3⟩ := h
  have hc2 := h2.cell 2
  have hf2 := h2.frozen 2
  simp at hc2
  have hne := h3.ne h2 (by decide)
  go_enter Tryz.func25, Tryz.ntmps25
  go_wp2
  go_end0
  exact ⟨rfl, ⟨h1, h2.set 2 _, h3.set 2 _ hne⟩, grown_set (grown_refl _ _) _ _⟩

end Go.Proofs.YtpkpnaedacefaaaGreat.BusW

/- The walks of package bus, continued: a bit more. -/
namespace Go.Proofs.YtpkpnaedacefaaaGreat.BusW
set_option linter.unusedVariables false
set_option linter.unusedSimpArgs false
open Go Go.RowKit Go.Proofs.YtpkpnaedacefaaaGreat.Lib Go.Proofs.YtpkpnaedacefaaaGreat.PrintMore
attribute [local go_sem] max2_int min2_int max_two min_two

/-- Whether the wire is 0. -/
def lowOf (s : ByteArray) (t : Bool) : Bool := s.data.toList.contains 48 != t
/-- The bit on the wire. -/
def bitC (s : ByteArray) (t : Bool) : UInt8 := if lowOf s t then 48 else 49
theorem own_len {w : World} {base : Nat} {e : TypeId} {v : Value} {l : List UInt8} (h : OwnB w base e v l) : (v = .slice none 0 0 ∧ l.length = 0) ∨ ∃ g c, v = .slice (some ⟨g, 0, none⟩) l.length c ∧ l.length ≤ c := by
  rcases h.2 with ⟨h1, h2⟩ | ⟨g, cap, cur, h1, _, _, h3, _⟩
  · exact .inl ⟨h1, h2⟩
  · exact .inr ⟨g, cap, h1, h3⟩

theorem own_some {w : World} {base : Nat} {e : TypeId} {v : Value} {l : List UInt8} (h : OwnB w base e v l) (hl : 0 < l.length) : ∃ g m c, v = .slice (some ⟨g, 0, none⟩) m c := by
  rcases own_len h with ⟨_, h2⟩ | ⟨g, c, h1, _⟩
  · omega
  · exact ⟨g, _, c, h1⟩
theorem kept2_of {w w8 : World} {g : Nat} {v : Value} {x : Value} (t : Bool) (u0 u1 : Value) (h : (((if t then w.setCell ⟨g, 2, none⟩ (.bool false) else w)).alloc (.cells #[x] 5)).grownBy w8 v.ownBlock) :
    Kept2 w ((w8.setCell ⟨g, 0, none⟩ u0).setCell ⟨g, 1, none⟩ u1) g v.ownBlock := by
  have hw : (if t then w.setCell ⟨g, 2, none⟩ (.bool false) else w).heap.size = w.heap.size := by cases t <;> simp [World.setCell]
  refine ⟨?_, ?_, ?_, ?_, ?_⟩
  · have := h.os; cases t <;> exact this
  · have := h.tape; cases t <;> exact this
  · have := h.output; cases t <;> exact this
  · have := h.size
    simp [World.setCell] at this hw ⊢
    omega
  · intro k hk hg hr
    have e1 : ((w8.setCell ⟨g, 0, none⟩ u0).setCell ⟨g, 1, none⟩ u1).heap[k]? = w8.heap[k]? :=
      (Below.heap_setCell _ ⟨g, 1, none⟩ u1 k hg).trans (Below.heap_setCell _ ⟨g, 0, none⟩ u0 k hg)
    rw [e1, h.block k (by simp; omega) hr, Below.heap_alloc _ _ k (by omega)]
    cases t
    · rfl
    · exact Below.heap_setCell _ ⟨g, 2, none⟩ _ k hg

theorem step_end {base g : Nat} {w8 : World} {x0 v8 : Value} {n : Nat} {l : List UInt8} (h1 : base ≤ g) (hn : n ≤ 1000000) (hb8 : Blk w8 g 86 [x0, .int .i64 n, .bool false]) (hown8 : OwnB w8 base 5 v8 l) :
    IsBus ((w8.setCell ⟨g, 0, none⟩ v8).setCell ⟨g, 1, none⟩ (.int .i64 (wrap64 ((n : Int) + 1)))) base g v8 l ((n + 1 : Nat) : Int) false := by
  have e : wrap64 ((n : Int) + 1) = ((n + 1 : Nat) : Int) := by unfold wrap64; omega
  have hno := hown8.ne hb8 (by decide)
  rw [e]
  exact ⟨h1, (hb8.set 0 _).set 1 _, (hown8.set 0 _ hno).set 1 _ hno⟩
theorem bit_val (s : ByteArray) (t low : Bool) (h : s.data.toList.contains 48 = low) : bitC s t = if low != t then 48 else 49 := by
  unfold bitC lowOf
  rw [h]

set_option maxRecDepth 100000 in
set_option maxHeartbeats 3200000 in
theorem step_small (base g : Nat) (v : Value) (l : List UInt8) (n : Nat) (t : Bool) (s : ByteArray) (w : World) (h : IsBus w base g v l n t) (hl : l.length < 8000) (hn : n ≤ 1000000) :
    Calls Tryz.prog 27 #[.pointer (some ⟨g, 0, none⟩), .string s] w fun e w' => e = .returned (.int .u8 ((bitC s t).toNat : Int)) ∧
      (∃ v', IsBus w' base g v' (l ++ [bitC s t]) ((n + 1 : Nat) : Int) false) ∧ Kept2 w w' g v.ownBlock := by
  obtain ⟨h1, h2, h3⟩ := h
  obtain ⟨i0, hi, hz0, hz1, hz2⟩ := info_parts info_u8
  have hc0 := h2.cell 0
  have hc1 := h2.cell 1
  have hc2 := h2.cell 2
  have hf2 := h2.frozen 2
  simp at hc0 hc1 hc2
  have hne := h3.ne h2 (by decide)
  have hx := index_has s.data.toList 48
  have hlen := own_len h3
  have HN : Hd (n ≤ 1000000) := ⟨hn⟩
  have hll : ((l.length : Int) ≥ 8000) = False := eq_false (by omega)
  have hl0 : ((8000 : Int) ≤ (l.length : Int)) = False := eq_false (by omega)
  have HL : Hd (l.length < 8000) := ⟨hl⟩
  have hB : base ≤ w.heap.size := Nat.le_trans h1 (Nat.le_of_lt h2.lt)
  have HFH := Hd.mk (fun x w8 u0 u1 (h : (((if t then w.setCell ⟨g, 2, none⟩ (.bool false) else w)).alloc (.cells #[x] 5)).grownBy w8 v.ownBlock) => kept2_of (v := v) t u0 u1 h)
  cases hlow : s.data.toList.contains 48
  · cases t
    · rw [hlow] at hx
      have hx2 : decide (0 ≤ Go.Lib.indexByte s.data.toList 48) = false := hx
      have hbit : bitC s false = 49 := bit_val s _ _ hlow
      rw [hbit]
      clear hx hlow hbit
      rcases hlen with ⟨rfl, hz⟩ | ⟨gr, cp, rfl, hcp⟩
      · clear hn hl
        go_enter Tryz.func27, Tryz.ntmps27
        go_wp2_with (first
          | (go_at_call 38; refine (index_calls _ _ _).mono ?_; rintro e w' ⟨rfl, rfl⟩)
          | (at_builtin; refine app_byte rfl (.tmp 54) (.tmp 56) 70 rfl base 5 i0 Tryz.underlying70 hi hz0 hz1 hz2 (.slice none 0 0) l rfl h3 49 _ rfl rfl (by have := HL.out; omega) hB ?_; intro v8 w8 hown8 hgrow8; obtain ⟨g8, m8, c8, rfl⟩ := own_some hown8 (by simp); have hb8 := (h2.alloc _).grown hgrow8 (fun h => hne h.symm); have k1 := hb8.cell 1; have k0 := hb8.cell 0; have q1 := hb8.frozen 1; have q0 := hb8.frozen 0; simp at k0 k1; clear hc0 hc1 hc2))
        go_ret
        exact ⟨rfl, ⟨_, step_end h1 HN.out hb8 hown8⟩, HFH.out _ _ _ _ hgrow8⟩
      · clear hn hl
        go_enter Tryz.func27, Tryz.ntmps27
        go_wp2_with (first
          | (go_at_call 38; refine (index_calls _ _ _).mono ?_; rintro e w' ⟨rfl, rfl⟩)
          | (at_builtin; refine app_byte rfl (.tmp 54) (.tmp 56) 70 rfl base 5 i0 Tryz.underlying70 hi hz0 hz1 hz2 (.slice (some ⟨gr, 0, none⟩) l.length cp) l rfl h3 49 _ rfl rfl (by have := HL.out; omega) hB ?_; intro v8 w8 hown8 hgrow8; obtain ⟨g8, m8, c8, rfl⟩ := own_some hown8 (by simp); have hb8 := (h2.alloc _).grown hgrow8 (fun h => hne h.symm); have k1 := hb8.cell 1; have k0 := hb8.cell 0; have q1 := hb8.frozen 1; have q0 := hb8.frozen 0; simp at k0 k1; clear hc0 hc1 hc2))
        go_ret
        exact ⟨rfl, ⟨_, step_end h1 HN.out hb8 hown8⟩, HFH.out _ _ _ _ hgrow8⟩
    · rw [hlow] at hx
      have hx2 : decide (0 ≤ Go.Lib.indexByte s.data.toList 48) = false := hx
      have hbit : bitC s true = 48 := bit_val s _ _ hlow
      rw [hbit]
      clear hx hlow hbit
      rcases hlen with ⟨rfl, hz⟩ | ⟨gr, cp, rfl, hcp⟩
      · clear hn hl
        have h2 : Blk (w.setCell ⟨g, 2, none⟩ (.bool false)) g 86 [(.slice none 0 0), .int .i64 n, .bool false] := h2.set 2 (.bool false)
        have h3 := h3.set 2 (.bool false) hne
        have hB2 : base ≤ (w.setCell ⟨g, 2, none⟩ (.bool false)).heap.size := by simpa [World.setCell] using hB
        have HS : Hd ((w.setCell ⟨g, 2, none⟩ (.bool false)).heap.size = w.heap.size) := ⟨by simp [World.setCell]⟩
        have d0 := h2.cell 0
        have d1 := h2.cell 1
        simp at d0 d1
        go_enter Tryz.func27, Tryz.ntmps27
        go_wp2_with (first
          | (go_at_call 38; refine (index_calls _ _ _).mono ?_; rintro e w' ⟨rfl, rfl⟩)
          | (at_builtin; refine app_byte rfl (.tmp 54) (.tmp 56) 70 rfl base 5 i0 Tryz.underlying70 hi hz0 hz1 hz2 (.slice none 0 0) l rfl h3 48 _ rfl (by rw [HS.out]; rfl) (by have := HL.out; omega) hB2 ?_; intro v8 w8 hown8 hgrow8; obtain ⟨g8, m8, c8, rfl⟩ := own_some hown8 (by simp); have hb8 := (h2.alloc _).grown hgrow8 (fun h => hne h.symm); have k1 := hb8.cell 1; have k0 := hb8.cell 0; have q1 := hb8.frozen 1; have q0 := hb8.frozen 0; simp at k0 k1; clear hc0 hc1 hc2))
        go_ret
        exact ⟨rfl, ⟨_, step_end h1 HN.out hb8 hown8⟩, HFH.out _ _ _ _ hgrow8⟩
      · clear hn hl
        have h2 : Blk (w.setCell ⟨g, 2, none⟩ (.bool false)) g 86 [(.slice (some ⟨gr, 0, none⟩) l.length cp), .int .i64 n, .bool false] := h2.set 2 (.bool false)
        have h3 := h3.set 2 (.bool false) hne
        have hB2 : base ≤ (w.setCell ⟨g, 2, none⟩ (.bool false)).heap.size := by simpa [World.setCell] using hB
        have HS : Hd ((w.setCell ⟨g, 2, none⟩ (.bool false)).heap.size = w.heap.size) := ⟨by simp [World.setCell]⟩
        have d0 := h2.cell 0
        have d1 := h2.cell 1
        simp at d0 d1
        go_enter Tryz.func27, Tryz.ntmps27
        go_wp2_with (first
          | (go_at_call 38; refine (index_calls _ _ _).mono ?_; rintro e w' ⟨rfl, rfl⟩)
          | (at_builtin; refine app_byte rfl (.tmp 54) (.tmp 56) 70 rfl base 5 i0 Tryz.underlying70 hi hz0 hz1 hz2 (.slice (some ⟨gr, 0, none⟩) l.length cp) l rfl h3 48 _ rfl (by rw [HS.out]; rfl) (by have := HL.out; omega) hB2 ?_; intro v8 w8 hown8 hgrow8; obtain ⟨g8, m8, c8, rfl⟩ := own_some hown8 (by simp); have hb8 := (h2.alloc _).grown hgrow8 (fun h => hne h.symm); have k1 := hb8.cell 1; have k0 := hb8.cell 0; have q1 := hb8.frozen 1; have q0 := hb8.frozen 0; simp at k0 k1; clear hc0 hc1 hc2))
        go_ret
        exact ⟨rfl, ⟨_, step_end h1 HN.out hb8 hown8⟩, HFH.out _ _ _ _ hgrow8⟩
  · cases t
    · rw [hlow] at hx
      have hx2 : decide (0 ≤ Go.Lib.indexByte s.data.toList 48) = true := hx
      have hbit : bitC s false = 48 := bit_val s _ _ hlow
      rw [hbit]
      clear hx hlow hbit
      rcases hlen with ⟨rfl, hz⟩ | ⟨gr, cp, rfl, hcp⟩
      · clear hn hl
        go_enter Tryz.func27, Tryz.ntmps27
        go_wp2_with (first
          | (go_at_call 38; refine (index_calls _ _ _).mono ?_; rintro e w' ⟨rfl, rfl⟩)
          | (at_builtin; refine app_byte rfl (.tmp 54) (.tmp 56) 70 rfl base 5 i0 Tryz.underlying70 hi hz0 hz1 hz2 (.slice none 0 0) l rfl h3 48 _ rfl rfl (by have := HL.out; omega) hB ?_; intro v8 w8 hown8 hgrow8; obtain ⟨g8, m8, c8, rfl⟩ := own_some hown8 (by simp); have hb8 := (h2.alloc _).grown hgrow8 (fun h => hne h.symm); have k1 := hb8.cell 1; have k0 := hb8.cell 0; have q1 := hb8.frozen 1; have q0 := hb8.frozen 0; simp at k0 k1; clear hc0 hc1 hc2))
        go_ret
        exact ⟨rfl, ⟨_, step_end h1 HN.out hb8 hown8⟩, HFH.out _ _ _ _ hgrow8⟩
      · clear hn hl
        go_enter Tryz.func27, Tryz.ntmps27
        go_wp2_with (first
          | (go_at_call 38; refine (index_calls _ _ _).mono ?_; rintro e w' ⟨rfl, rfl⟩)
          | (at_builtin; refine app_byte rfl (.tmp 54) (.tmp 56) 70 rfl base 5 i0 Tryz.underlying70 hi hz0 hz1 hz2 (.slice (some ⟨gr, 0, none⟩) l.length cp) l rfl h3 48 _ rfl rfl (by have := HL.out; omega) hB ?_; intro v8 w8 hown8 hgrow8; obtain ⟨g8, m8, c8, rfl⟩ := own_some hown8 (by simp); have hb8 := (h2.alloc _).grown hgrow8 (fun h => hne h.symm); have k1 := hb8.cell 1; have k0 := hb8.cell 0; have q1 := hb8.frozen 1; have q0 := hb8.frozen 0; simp at k0 k1; clear hc0 hc1 hc2))
        go_ret
        exact ⟨rfl, ⟨_, step_end h1 HN.out hb8 hown8⟩, HFH.out _ _ _ _ hgrow8⟩
    · rw [hlow] at hx
      have hx2 : decide (0 ≤ Go.Lib.indexByte s.data.toList 48) = true := hx
      have hbit : bitC s true = 49 := bit_val s _ _ hlow
      rw [hbit]
      clear hx hlow hbit
      rcases hlen with ⟨rfl, hz⟩ | ⟨gr, cp, rfl, hcp⟩
      · clear hn hl
        have h2 : Blk (w.setCell ⟨g, 2, none⟩ (.bool false)) g 86 [(.slice none 0 0), .int .i64 n, .bool false] := h2.set 2 (.bool false)
        have h3 := h3.set 2 (.bool false) hne
        have hB2 : base ≤ (w.setCell ⟨g, 2, none⟩ (.bool false)).heap.size := by simpa [World.setCell] using hB
        have HS : Hd ((w.setCell ⟨g, 2, none⟩ (.bool false)).heap.size = w.heap.size) := ⟨by simp [World.setCell]⟩
        have d0 := h2.cell 0
        have d1 := h2.cell 1
        simp at d0 d1
        go_enter Tryz.func27, Tryz.ntmps27
        go_wp2_with (first
          | (go_at_call 38; refine (index_calls _ _ _).mono ?_; rintro e w' ⟨rfl, rfl⟩)
          | (at_builtin; refine app_byte rfl (.tmp 54) (.tmp 56) 70 rfl base 5 i0 Tryz.underlying70 hi hz0 hz1 hz2 (.slice none 0 0) l rfl h3 49 _ rfl (by rw [HS.out]; rfl) (by have := HL.out; omega) hB2 ?_; intro v8 w8 hown8 hgrow8; obtain ⟨g8, m8, c8, rfl⟩ := own_some hown8 (by simp); have hb8 := (h2.alloc _).grown hgrow8 (fun h => hne h.symm); have k1 := hb8.cell 1; have k0 := hb8.cell 0; have q1 := hb8.frozen 1; have q0 := hb8.frozen 0; simp at k0 k1; clear hc0 hc1 hc2))
        go_ret
        exact ⟨rfl, ⟨_, step_end h1 HN.out hb8 hown8⟩, HFH.out _ _ _ _ hgrow8⟩
      · clear hn hl
        have h2 : Blk (w.setCell ⟨g, 2, none⟩ (.bool false)) g 86 [(.slice (some ⟨gr, 0, none⟩) l.length cp), .int .i64 n, .bool false] := h2.set 2 (.bool false)
        have h3 := h3.set 2 (.bool false) hne
        have hB2 : base ≤ (w.setCell ⟨g, 2, none⟩ (.bool false)).heap.size := by simpa [World.setCell] using hB
        have HS : Hd ((w.setCell ⟨g, 2, none⟩ (.bool false)).heap.size = w.heap.size) := ⟨by simp [World.setCell]⟩
        have d0 := h2.cell 0
        have d1 := h2.cell 1
        simp at d0 d1
        go_enter Tryz.func27, Tryz.ntmps27
        go_wp2_with (first
          | (go_at_call 38; refine (index_calls _ _ _).mono ?_; rintro e w' ⟨rfl, rfl⟩)
          | (at_builtin; refine app_byte rfl (.tmp 54) (.tmp 56) 70 rfl base 5 i0 Tryz.underlying70 hi hz0 hz1 hz2 (.slice (some ⟨gr, 0, none⟩) l.length cp) l rfl h3 49 _ rfl (by rw [HS.out]; rfl) (by have := HL.out; omega) hB2 ?_; intro v8 w8 hown8 hgrow8; obtain ⟨g8, m8, c8, rfl⟩ := own_some hown8 (by simp); have hb8 := (h2.alloc _).grown hgrow8 (fun h => hne h.symm); have k1 := hb8.cell 1; have k0 := hb8.cell 0; have q1 := hb8.frozen 1; have q0 := hb8.frozen 0; simp at k0 k1; clear hc0 hc1 hc2))
        go_ret
        exact ⟨rfl, ⟨_, step_end h1 HN.out hb8 hown8⟩, HFH.out _ _ _ _ hgrow8⟩
end Go.Proofs.YtpkpnaedacefaaaGreat.BusW

/- The walks of package bus, continued: the latest bits. -/
namespace Go.Proofs.YtpkpnaedacefaaaGreat.BusW
set_option linter.unusedVariables false
set_option linter.unusedSimpArgs false
open Go Go.RowKit Go.Proofs.YtpkpnaedacefaaaGreat.Lib Go.Proofs.YtpkpnaedacefaaaGreat.PrintMore
attribute [local go_sem] max2_int min2_int max_two min_two

/-- What is told of the bits kept. -/
def tailOf (l : List UInt8) : List UInt8 := l.drop (l.length - 4000)

theorem run_conv_part {P : Program} {w : World} (src dst e : TypeId) (hs : P.underlying src = some (.slice e)) (he : P.underlying e = some (.int .u8)) (hd : P.underlying dst = some .string)
    (base gr cp m : Nat) (l : List UInt8) (hown : OwnB w base e (.slice (some ⟨gr, 0, none⟩) l.length cp) l) (hm : m ≤ l.length) : (convert src dst (.slice (some ⟨gr, m, none⟩) (l.length - m) (cp - m))).run P w = .ok (.string ⟨(l.drop m).toArray⟩) w := by
  have := run_convert_bytes_arg (P := P) (w := w) src e hs he gr m (l.length - m) (cp - m) ((l.drop m).map fun x => (x.toNat : Int)) (by simp) (fun i hi => by
    have hc := World.ownsRow.cells (g := gr) hown rfl (m + i) (.int .u8 (l[m + i].toNat : Int)) (byteVs_get l (m + i) (by omega))
    have ha : (⟨gr, 0, none⟩ : Addr).add (m + i) = ⟨gr, m + i, none⟩ := by unfold Addr.add; split <;> simp_all
    rw [ha] at hc
    rw [hc]
    simp [List.getD, show m + i < l.length by omega]) dst hd
  rw [strOf_bytes] at this
  exact this

set_option maxRecDepth 100000 in
set_option maxHeartbeats 3200000 in
theorem trace_calls (base g : Nat) (v : Value) (l : List UInt8) (n : Int) (t : Bool) (w : World) (h : IsBus w base g v l n t) (hl : l.length ≤ 1000000) :
    Calls Tryz.prog 17 #[.pointer (some ⟨g, 0, none⟩)] w fun e w' => e = .returned (.string ⟨(tailOf l).toArray⟩) ∧ Below w.heap.size w w' := by
  obtain ⟨h1, h2, h3⟩ := h
  obtain ⟨i0, hi, hz0, hz1, hz2⟩ := info_parts info_u8
  have hc0 := h2.drew.cell 0
  simp at hc0
  have hlen := own_len h3
  obtain ⟨m, hm⟩ : ∃ m, m = l.length - 4000 := ⟨_, rfl⟩
  have hmx : max ((l.length : Int) - 4000) 0 = (m : Int) := by omega
  have hml : m ≤ l.length := by omega
  unfold tailOf
  rw [← hm]
  have HM := Hd.mk hm
  have HLL := Hd.mk hl
  rcases hlen with ⟨rfl, hz⟩ | ⟨gr, cp, rfl, hcp⟩
  · have hl0 : l = [] := List.eq_nil_of_length_eq_zero hz
    subst hl0
    have hm0 : m = 0 := hm
    subst hm0
    clear hm hl hmx hml
    go_enter Tryz.func17, Tryz.ntmps17
    go_wp2_with fail
    refine region_text (by kernel_rfl) (by kernel_rfl) (fun b _ W => W = w.drew) rfl ?_
    refine t_pure (.pointer (some ⟨g, 0, none⟩)) (fun _ => rfl) (fun b g w h => h) (fun b g w h _ => by subst h; go_simp) ?_
    refine t_pure (.pointer (some ⟨g, 0, none⟩)) (fun _ => rfl) (fun b g w h => h) (fun b g w h _ => by subst h; go_simp) ?_
    refine t_pure (.pointer (some ⟨g, 0, none⟩)) (fun _ => rfl) (fun b g w h => h) (fun b g w h _ => by subst h; go_simp) ?_
    refine t_pure (.slice none 0 0) (fun _ => rfl) (fun b g w h => h) (fun b g w h _ => by subst h; go_simp) ?_
    refine t_pure (.pointer (some ⟨g, 0, none⟩)) (fun _ => rfl) (fun b g w h => h) (fun b g w h _ => by subst h; go_simp) ?_
    refine t_pure (.pointer (some ⟨g, 0, none⟩)) (fun _ => rfl) (fun b g w h => h) (fun b g w h _ => by subst h; go_simp) ?_
    refine t_pure (.pointer (some ⟨g, 0, none⟩)) (fun _ => rfl) (fun b g w h => h) (fun b g w h _ => by subst h; go_simp) ?_
    refine t_pure (.slice none 0 0) (fun _ => rfl) (fun b g w h => h) (fun b g w h _ => by subst h; go_simp) ?_
    refine t_pure (.int .i64 0) (fun _ => rfl) (fun b g w h => h) (fun b g w h _ => by subst h; go_simp) ?_
    refine t_pure (.int .i64 (-4000)) (fun _ => rfl) (fun b g w h => h) (fun b g w h _ => by subst h; go_simp; decide) ?_
    refine t_pure (.int .i64 0) (fun _ => rfl) (fun b g w h => h) (fun b g w h _ => by subst h; go_simp) ?_
    refine t_pure (.slice none 0 0) (fun _ => rfl) (fun b g w h => h) (fun b g w h _ => by subst h; go_simp) ?_
    refine t_pure (.string ⟨#[]⟩) (fun _ => rfl) (fun b g w h => h) (fun b g w h _ => ?_) ?_
    · subst h
      have : (convert 70 9 (.slice none 0 0)).run Tryz.prog w.drew = .ok (.string ⟨#[]⟩) w.drew := run_convert_bytes_nil w.drew 70 5 Tryz.underlying70 Tryz.underlying5 0 0 9 Tryz.underlying9
      go_simp
    refine t_pure (.string ⟨#[]⟩) (fun _ => rfl) (fun b g w h => h) (fun b g w h _ => by subst h; go_simp) ?_
    refine t_end ?_
    intro bq gq w5 hall hS
    subst hS
    simp only [Act.put, List.setIfInBounds_toArray, List.set_cons_zero, List.set_cons_succ]
    go_wp2_with fail
    go_ret
    exact ⟨rfl, (Below.refl _ _).drew⟩
  · clear hm hl
    go_enter Tryz.func17, Tryz.ntmps17
    go_wp2_with fail
    refine region_text (by kernel_rfl) (by kernel_rfl) (fun b _ W => W = w.drew) rfl ?_
    refine t_pure (.pointer (some ⟨g, 0, none⟩)) (fun _ => rfl) (fun b g w h => h) (fun b g w h _ => by subst h; go_simp) ?_
    refine t_pure (.pointer (some ⟨g, 0, none⟩)) (fun _ => rfl) (fun b g w h => h) (fun b g w h _ => by subst h; go_simp) ?_
    refine t_pure (.pointer (some ⟨g, 0, none⟩)) (fun _ => rfl) (fun b g w h => h) (fun b g w h _ => by subst h; go_simp) ?_
    refine t_pure (.slice (some ⟨gr, 0, none⟩) l.length cp) (fun _ => rfl) (fun b g w h => h) (fun b g w h _ => by subst h; go_simp) ?_
    refine t_pure (.pointer (some ⟨g, 0, none⟩)) (fun _ => rfl) (fun b g w h => h) (fun b g w h _ => by subst h; go_simp) ?_
    refine t_pure (.pointer (some ⟨g, 0, none⟩)) (fun _ => rfl) (fun b g w h => h) (fun b g w h _ => by subst h; go_simp) ?_
    refine t_pure (.pointer (some ⟨g, 0, none⟩)) (fun _ => rfl) (fun b g w h => h) (fun b g w h _ => by subst h; go_simp) ?_
    refine t_pure (.slice (some ⟨gr, 0, none⟩) l.length cp) (fun _ => rfl) (fun b g w h => h) (fun b g w h _ => by subst h; go_simp) ?_
    refine t_pure (.int .i64 l.length) (fun _ => rfl) (fun b g w h => h) (fun b g w h _ => by subst h; go_simp) ?_
    refine t_pure (.int .i64 ((l.length : Int) - 4000)) (fun _ => rfl) (fun b g w h => h) (fun b g w h _ => by subst h; have e : IntKind.i64.wrap ((l.length : Int) - 4000) = (l.length : Int) - 4000 := (by rw [IntKind.wrap_i64]; have := HLL.out; omega); go_simp) ?_
    refine t_pure (.int .i64 m) (fun _ => rfl) (fun b g w h => h) (fun b g w h _ => by subst h; go_simp; have := HM.out; split <;> omega) ?_
    refine t_pure (.slice (some ⟨gr, m, none⟩) (l.length - m) (cp - m)) (fun _ => rfl) (fun b g w h => h) (fun b g w h _ => by subst h; go_simp; intro hc; have := HM.out; omega) ?_
    refine t_pure (.string ⟨(l.drop m).toArray⟩) (fun _ => rfl) (fun b g w h => h) (fun b g w h _ => ?_) ?_
    · subst h
      have : (convert 70 9 (.slice (some ⟨gr, m, none⟩) (l.length - m) (cp - m))).run Tryz.prog w.drew = .ok (.string ⟨(l.drop m).toArray⟩) w.drew := run_conv_part (P := Tryz.prog) 70 9 5 Tryz.underlying70 Tryz.underlying5 Tryz.underlying9 _ _ _ m l (h3.kept (row := none) (by exact grown_drew (grown_refl _ _)) (by simp [Value.ownBlock])) hml
      go_simp
    refine t_pure (.string ⟨(l.drop m).toArray⟩) (fun _ => rfl) (fun b g w h => h) (fun b g w h _ => by subst h; go_simp) ?_
    refine t_end ?_
    intro bq gq w5 hall hS
    subst hS
    simp only [Act.put, List.setIfInBounds_toArray, List.set_cons_zero, List.set_cons_succ]
    go_wp2_with fail
    go_ret
    exact ⟨rfl, (Below.refl _ _).drew⟩
end Go.Proofs.YtpkpnaedacefaaaGreat.BusW

/- Wires of a call's own: the functions of package bus, as a law's walk asks for them. -/
namespace Go.Proofs.YtpkpnaedacefaaaGreat.BusW
set_option linter.unusedVariables false
set_option linter.unusedSimpArgs false
open Go Go.RowKit Go.Proofs.YtpkpnaedacefaaaGreat.Lib Go.Proofs.YtpkpnaedacefaaaGreat.PrintMore
attribute [local go_sem] max2_int min2_int max_two min_two

/-- In the world w, which came out of w0, a wire of the call's own lies at g. -/
structure BusAt (w0 w : World) (g : Nat) (l : List UInt8) (n : Nat) (t : Bool) : Prop where
  bus : ∃ v, IsBus w w0.heap.size g v l n t
  below : Below w0.heap.size w0 w
theorem own_ge {w : World} {base : Nat} {e : TypeId} {v : Value} {l : List UInt8} (h : OwnB w base e v l) (k : Nat) (hk : v.ownBlock = some k) : base ≤ k := (World.ownsRow.lt h k hk).1
theorem Kept2.under {w0 w w' : World} {g : Nat} {v : Value} (h : Kept2 w w' g v.ownBlock) (hb : Below w0.heap.size w0 w) (hg : w0.heap.size ≤ g) (hv : ∀ k, v.ownBlock = some k → w0.heap.size ≤ k) : Below w0.heap.size w0 w' :=
  { os := h.os.trans hb.os, tape := h.tape.trans hb.tape, output := h.output.trans hb.output, size := Nat.le_trans hb.size h.size,
    block := fun k hk => (h.block k (Nat.lt_of_lt_of_le hk hb.size) (fun e => by omega) (fun e => by have := hv k e.symm; omega)).trans (hb.block k hk) }
theorem BusAt.later {w0 w w' : World} {g : Nat} {l : List UInt8} {n : Nat} {t : Bool} (h : BusAt w0 w g l n t) (hb : Below w.heap.size w w') : BusAt w0 w' g l n t := by
  obtain ⟨⟨v, h1, h2, h3⟩, h4⟩ := h
  exact ⟨⟨v, h1, h2.below hb, h3.below hb⟩, h4.trans (hb.mono h4.size)⟩
theorem OwnB.lower {w : World} {base base' : Nat} {e : TypeId} {v : Value} {l : List UInt8} (h : OwnB w base e v l) (hb : base' ≤ base) : OwnB w base' e v l := by
  refine ⟨h.1, ?_⟩
  rcases h.2 with hn | ⟨g, cap, cur, rfl, hb2, rest⟩
  · exact .inl hn
  · exact .inr ⟨g, cap, cur, rfl, Nat.le_trans hb hb2, rest⟩

theorem new_bus (w0 w : World) (hb : Below w0.heap.size w0 w) : Calls Tryz.prog 19 #[] w fun e w' => ∃ g, e = .returned (.pointer (some ⟨g, 0, none⟩)) ∧ BusAt w0 w' g [] 0 false := by
  refine (new_calls w).mono ?_
  rintro e w' ⟨rfl, ⟨h1, h2, h3⟩, h4⟩
  exact ⟨_, rfl, ⟨⟨_, Nat.le_trans hb.size h1, h2, OwnB.lower h3 hb.size⟩, hb.grown h4 hb.size (fun k h => by cases h)⟩⟩
theorem step_bus (w0 w : World) (g : Nat) (l : List UInt8) (n : Nat) (t : Bool) (s : ByteArray) (h : BusAt w0 w g l n t) (hl : l.length < 8000) (hn : n ≤ 1000000) :
    Calls Tryz.prog 27 #[.pointer (some ⟨g, 0, none⟩), .string s] w fun e w' => e = .returned (.int .u8 ((bitC s t).toNat : Int)) ∧ BusAt w0 w' g (l ++ [bitC s t]) (n + 1) false := by
  obtain ⟨⟨v, hv⟩, hb⟩ := h
  refine (step_small _ g v l n t s w hv hl hn).mono ?_
  rintro e w' ⟨rfl, ⟨v', h1⟩, h2⟩
  exact ⟨rfl, ⟨v', h1⟩, h2.under hb hv.1 (own_ge hv.2.2)⟩
theorem flip_bus (w0 w : World) (g : Nat) (l : List UInt8) (n : Nat) (t : Bool) (h : BusAt w0 w g l n t) :
    Calls Tryz.prog 25 #[.pointer (some ⟨g, 0, none⟩)] w fun e w' => e = .returned (.tuple #[]) ∧ BusAt w0 w' g l n true := by
  obtain ⟨⟨v, hv⟩, hb⟩ := h
  refine (flip_calls _ g v l n t w hv).mono ?_
  rintro e w' ⟨rfl, h1, h2⟩
  exact ⟨rfl, ⟨v, h1⟩, hb.grown h2 hb.size (fun k h => by cases h; exact hv.1)⟩
theorem trace_bus (w0 w : World) (g : Nat) (l : List UInt8) (n : Nat) (t : Bool) (h : BusAt w0 w g l n t) (hl : l.length ≤ 1000000) :
    Calls Tryz.prog 17 #[.pointer (some ⟨g, 0, none⟩)] w fun e w' => e = .returned (.string ⟨(tailOf l).toArray⟩) ∧ BusAt w0 w' g l n t := by
  obtain ⟨v, hv⟩ := h.bus
  refine (trace_calls _ g v l n t w hv hl).mono ?_
  rintro e w' ⟨rfl, h1⟩
  exact ⟨rfl, h.later h1⟩

end Go.Proofs.YtpkpnaedacefaaaGreat.BusW

/- The walks of package bus, continued: a copy. -/
namespace Go.Proofs.YtpkpnaedacefaaaGreat.BusW
set_option linter.unusedVariables false
set_option linter.unusedSimpArgs false
open Go Go.RowKit Go.Proofs.YtpkpnaedacefaaaGreat.Lib Go.Proofs.YtpkpnaedacefaaaGreat.PrintMore
attribute [local go_sem] max2_int min2_int max_two min_two

theorem below_setRow {B : Nat} {w0 w : World} {r : Nat} {T : TypeId} {cs : List Value} (h : Below B w0 w) (hb : Blk w r T cs) (hr : B ≤ r) (xs : Array Value) : Below B w0 (w.setRow r xs) :=
  h.grown (row := some r) ⟨rfl, rfl, rfl, by simp [World.setRow], fun k _ hk => setRow_other w r k _ (fun e => hk (by rw [e]))⟩ (Nat.le_trans hr (Nat.le_of_lt hb.lt)) (fun k e => by cases e; exact hr)
theorem blk_setRow {w : World} {r g : Nat} {T T' : TypeId} {cs cs' : List Value} (hb : Blk w r T cs) (h : Blk w g T' cs') (hne : g ≠ r) (xs : Array Value) : Blk (w.setRow r xs) g T' cs' :=
  (setRow_other w r g _ hne).trans h
theorem copy_whole {P : Program} {w : World} (dT ty elem : TypeId) (hu : P.underlying dT = some (.slice elem)) (hs : (P.info? elem).map (·.size) = some 1) (r : Nat) (T e : TypeId) (cs : List Value) (base : Nat) (v : Value) (l : List UInt8)
    (hr : Blk w r T cs) (hcs : cs.length = l.length) (hown : OwnB w base e v l) :
    ∃ w', (Builtin.copy_ #[dT, dT] ty #[.slice (some ⟨r, 0, none⟩) l.length l.length, v]).run P w = .ok (.int .i64 l.length) w' ∧ Blk w' r T (byteVs l) ∧ (w' = w ∨ ∃ xs, w' = w.setRow r xs) := by
  rcases own_len hown with ⟨rfl, hz⟩ | ⟨gr, cp, rfl, hcp⟩
  · obtain rfl : l = [] := List.eq_nil_of_length_eq_zero hz
    refine ⟨w, ?_, ?_, .inl rfl⟩
    · exact Go.run_copy_nil P w dT dT ty elem ⟨r, 0, none⟩ 0 0 hu (by cases h : P.info? elem <;> simp [h] at hs ⊢)
    · have : cs = [] := List.eq_nil_of_length_eq_zero hcs
      rw [this] at hr
      exact hr
  · have hrun := run_copy_row (P := P) w dT dT ty elem r 0 l.length l.length ⟨gr, 0, none⟩ l.length cp cs.toArray T (byteVs l) hu hs hr (by rw [byteVs_length]; simp)
      (fun j u hj => World.ownsRow.cells (g := gr) hown rfl j u hj) (by rw [byteVs_length]; simp [hcs]) (fun u hu => by
        simp only [byteVs, List.mem_map] at hu
        obtain ⟨x, _, rfl⟩ := hu
        rfl)
    refine ⟨w.setRow r (List.take 0 cs ++ byteVs l ++ cs.drop (0 + (byteVs l).length)).toArray, hrun.trans ?_, ?_, .inr ⟨_, rfl⟩⟩
    · rw [byteVs_length]; rfl
    · have := setRow_heap w r cs.toArray (List.take 0 cs ++ byteVs l ++ cs.drop (0 + (byteVs l).length)).toArray T (0, 0) hr
      have e : List.take 0 cs ++ byteVs l ++ cs.drop (0 + (byteVs l).length) = byteVs l := by
        rw [byteVs_length, List.drop_of_length_le (by omega)]
        simp
      show Blk (w.setRow r (List.take 0 cs ++ byteVs l ++ cs.drop (0 + (byteVs l).length)).toArray) r T _
      unfold Blk
      rw [this, e]

set_option maxRecDepth 100000 in
set_option maxHeartbeats 3200000 in
theorem copy_calls (base g : Nat) (v : Value) (l : List UInt8) (n : Int) (t : Bool) (w : World) (h : IsBus w base g v l n t) (hl : l.length ≤ 1000000) :
    Calls Tryz.prog 31 #[.pointer (some ⟨g, 0, none⟩)] w fun e w' => e = .returned (.pointer (some ⟨w.heap.size, 0, none⟩)) ∧
      (∃ r, w.heap.size < r ∧ Blk w' w.heap.size 86 [.slice (some ⟨r, 0, none⟩) l.length l.length, .int .i64 n, .bool t] ∧ Blk w' r 5 (byteVs l)) ∧ Below w.heap.size w w' := by
  obtain ⟨h1, h2, h3⟩ := h
  obtain ⟨i0, hi, hz0, hz1, hz2⟩ := info_parts info_u8
  have hu := Tryz.underlying86
  have hc0 := h2.cell 0
  have hc1 := h2.cell 1
  have hc2 := h2.cell 2
  simp at hc0 hc1 hc2
  have hlen := own_len h3
  have HLL := Hd.mk hl
  have hlt := h2.lt
  have hgc : g ≠ w.heap.size := by omega
  rcases hlen with ⟨rfl, hz⟩ | ⟨gr, cp, rfl, hcp⟩
  · obtain rfl : l = [] := List.eq_nil_of_length_eq_zero hz
    clear hz hl
    go_enter Tryz.func31, Tryz.ntmps31
    go_wp2_with (at_make; go_loud (refine make_blk _ rfl _ _ 70 rfl 5 i0 (.int .u8 0) Tryz.underlying70 hi hz0 hz1 rfl 0 rfl rfl (by rw [hz2]; have := HLL.out; omega) (by unfold maxLen; have := HLL.out; omega) ?_; intro w1 r hr hb hgrow; have hbc := (Blk.new w [(.slice none 0 0), .int .i64 n, .bool t] 86).grown hgrow (by simp); have k0 := hbc.cell 0; simp at k0; have q0 := hbc.frozen 0; have hbg := (h2.alloc (.cells #[(.slice none 0 0), .int .i64 n, .bool t] 86)).grown hgrow (by simp); have j0 := hbg.cell 0; simp at j0))
    have hown1 := (h3.alloc (.cells #[(.slice none 0 0), .int .i64 n, .bool t] 86)).kept hgrow (by cases (Value.ownBlock (.slice none 0 0)) <;> simp)
    have hr' : w.heap.size < r := by simp at hr; omega
    have hB1 : Below w.heap.size w w1 := ((Below.refl w.heap.size w).alloc (Nat.le_refl _) _).grown hgrow (by simp) (fun k e => by cases e)
    have hnog := hown1.ne hbc (by decide)
    have s1 := hbc.set 0 (.slice (some ⟨r, 0, none⟩) 0 0)
    have s2 : Blk (w1.setCell ⟨w.heap.size, 0, none⟩ (.slice (some ⟨r, 0, none⟩) 0 0)) g 86 [(.slice none 0 0), .int .i64 n, .bool t] := hbg.far (p := ⟨w.heap.size, 0, none⟩) hgc _
    have s3 : Blk (w1.setCell ⟨w.heap.size, 0, none⟩ (.slice (some ⟨r, 0, none⟩) 0 0)) r 5 (List.replicate 0 (.int .u8 0)) := hb.far (p := ⟨w.heap.size, 0, none⟩) (show r ≠ w.heap.size by omega) _
    have s4 := hown1.set 0 (.slice (some ⟨r, 0, none⟩) 0 0) hnog
    have s5 : Below w.heap.size w (w1.setCell ⟨w.heap.size, 0, none⟩ (.slice (some ⟨r, 0, none⟩) 0 0)) := hB1.setCell (by exact Nat.le_refl _) _
    simp only [List.set_cons_zero] at s1
    generalize w1.setCell ⟨w.heap.size, 0, none⟩ (.slice (some ⟨r, 0, none⟩) 0 0) = w2 at *
    have hrc : r ≠ w.heap.size := by omega
    have hgr : g ≠ r := by omega
    refine region_text (by kernel_rfl) (by kernel_rfl) (fun b _ W => Blk W w.heap.size 86 [.slice (some ⟨r, 0, none⟩) 0 0, .int .i64 n, .bool t] ∧ Blk W g 86 [(.slice none 0 0), .int .i64 n, .bool t] ∧ OwnB W base 5 (.slice none 0 0) ([] : List UInt8) ∧ (∃ cs, Blk W r 5 cs ∧ cs.length = 0 ∧ (b 6 = true → cs = byteVs ([] : List UInt8))) ∧ Below w.heap.size w W) ⟨s1.drew, s2.drew, s4.kept (row := none) (by exact grown_drew (grown_refl _ _)) (by cases (Value.ownBlock (.slice none 0 0)) <;> simp), ⟨_, s3.drew, by simp, fun h => by cases h⟩, s5.drew⟩ ?_
    refine t_pure (.pointer (some ⟨w.heap.size, 0, none⟩)) (fun _ => rfl) (fun b γ W h => h) (fun b γ W h _ => by go_simp) ?_
    refine t_pure (.slice (some ⟨r, 0, none⟩) 0 0) (fun _ => rfl) (fun b γ W h => h) (fun b γ W h _ => by have x0 := h.1.cell 0; simp at x0; go_simp) ?_
    refine t_pure (.pointer (some ⟨g, 0, none⟩)) (fun _ => rfl) (fun b γ W h => h) (fun b γ W h _ => by go_simp) ?_
    refine t_pure (.pointer (some ⟨g, 0, none⟩)) (fun _ => rfl) (fun b γ W h => h) (fun b γ W h _ => by have x0 := h.2.1.cell 0; simp at x0; go_simp) ?_
    refine t_pure (.pointer (some ⟨g, 0, none⟩)) (fun _ => rfl) (fun b γ W h => h) (fun b γ W h _ => by go_simp) ?_
    refine t_pure (.slice none 0 0) (fun _ => rfl) (fun b γ W h => h) (fun b γ W h _ => by have x0 := h.2.1.cell 0; simp at x0; go_simp) ?_
    refine t_run (.int .i64 0) (fun _ => rfl) (fun b γ W h _ _ _ => ?_) ?_
    · obtain ⟨q1, q2, q3, ⟨cs, q4, q5, q6⟩, q7⟩ := h
      obtain ⟨W', x1, x2, x3⟩ := copy_whole (P := Tryz.prog) 70 3 5 Tryz.underlying70 (by rw [hi, Option.map_some, hz1]) r 5 5 cs base (.slice none 0 0) ([] : List UInt8) q4 q5 q3
      refine ⟨W', ?_, ?_⟩
      · (try simp only [List.length_nil] at x1)
        go_simp
      · have hno : Value.ownBlock (.slice none 0 0) ≠ some r := by
          simp [Value.ownBlock]
        rcases x3 with rfl | ⟨xs, rfl⟩
        · exact ⟨q1, q2, q3, ⟨_, x2, byteVs_length _, fun _ => rfl⟩, q7⟩
        · exact ⟨blk_setRow q4 q1 (fun e => hrc e.symm) xs, blk_setRow q4 q2 hgr xs, q3.kept (row := some r) ⟨rfl, rfl, rfl, by simp [World.setRow], fun k _ hk => setRow_other _ r k _ (fun e => hk (by rw [e]))⟩ (.inr hno), ⟨_, x2, byteVs_length _, fun _ => rfl⟩, below_setRow q7 q4 (by omega) xs⟩
    refine t_end ?_
    intro bq gq w5 hall hS
    obtain ⟨q1, q2, q3, ⟨cs, q4, q5, q6⟩, q7⟩ := hS
    obtain rfl := q6 (hall 6 (by decide))
    simp only [Act.put, List.setIfInBounds_toArray, List.set_cons_zero, List.set_cons_succ]
    go_wp2_with fail
    go_ret
    exact ⟨rfl, ⟨r, by omega, q1, q4⟩, q7⟩
  · go_enter Tryz.func31, Tryz.ntmps31
    go_wp2_with (at_make; go_loud (refine make_blk _ rfl _ _ 70 rfl 5 i0 (.int .u8 0) Tryz.underlying70 hi hz0 hz1 rfl l.length rfl rfl (by rw [hz2]; have := HLL.out; omega) (by unfold maxLen; have := HLL.out; omega) ?_; intro w1 r hr hb hgrow; have hbc := (Blk.new w [(.slice (some ⟨gr, 0, none⟩) l.length cp), .int .i64 n, .bool t] 86).grown hgrow (by simp); have k0 := hbc.cell 0; simp at k0; have q0 := hbc.frozen 0; have hbg := (h2.alloc (.cells #[(.slice (some ⟨gr, 0, none⟩) l.length cp), .int .i64 n, .bool t] 86)).grown hgrow (by simp); have j0 := hbg.cell 0; simp at j0))
    have hown1 := (h3.alloc (.cells #[(.slice (some ⟨gr, 0, none⟩) l.length cp), .int .i64 n, .bool t] 86)).kept hgrow (by cases (Value.ownBlock (.slice (some ⟨gr, 0, none⟩) l.length cp)) <;> simp)
    have hr' : w.heap.size < r := by simp at hr; omega
    have hB1 : Below w.heap.size w w1 := ((Below.refl w.heap.size w).alloc (Nat.le_refl _) _).grown hgrow (by simp) (fun k e => by cases e)
    have hnog := hown1.ne hbc (by decide)
    have s1 := hbc.set 0 (.slice (some ⟨r, 0, none⟩) l.length l.length)
    have s2 : Blk (w1.setCell ⟨w.heap.size, 0, none⟩ (.slice (some ⟨r, 0, none⟩) l.length l.length)) g 86 [(.slice (some ⟨gr, 0, none⟩) l.length cp), .int .i64 n, .bool t] := hbg.far (p := ⟨w.heap.size, 0, none⟩) hgc _
    have s3 : Blk (w1.setCell ⟨w.heap.size, 0, none⟩ (.slice (some ⟨r, 0, none⟩) l.length l.length)) r 5 (List.replicate l.length (.int .u8 0)) := hb.far (p := ⟨w.heap.size, 0, none⟩) (show r ≠ w.heap.size by omega) _
    have s4 := hown1.set 0 (.slice (some ⟨r, 0, none⟩) l.length l.length) hnog
    have s5 : Below w.heap.size w (w1.setCell ⟨w.heap.size, 0, none⟩ (.slice (some ⟨r, 0, none⟩) l.length l.length)) := hB1.setCell (by exact Nat.le_refl _) _
    simp only [List.set_cons_zero] at s1
    generalize w1.setCell ⟨w.heap.size, 0, none⟩ (.slice (some ⟨r, 0, none⟩) l.length l.length) = w2 at *
    have hrc : r ≠ w.heap.size := by omega
    have hgr : g ≠ r := by omega
    refine region_text (by kernel_rfl) (by kernel_rfl) (fun b _ W => Blk W w.heap.size 86 [.slice (some ⟨r, 0, none⟩) l.length l.length, .int .i64 n, .bool t] ∧ Blk W g 86 [(.slice (some ⟨gr, 0, none⟩) l.length cp), .int .i64 n, .bool t] ∧ OwnB W base 5 (.slice (some ⟨gr, 0, none⟩) l.length cp) l ∧ (∃ cs, Blk W r 5 cs ∧ cs.length = l.length ∧ (b 6 = true → cs = byteVs l)) ∧ Below w.heap.size w W) ⟨s1.drew, s2.drew, s4.kept (row := none) (by exact grown_drew (grown_refl _ _)) (by cases (Value.ownBlock (.slice (some ⟨gr, 0, none⟩) l.length cp)) <;> simp), ⟨_, s3.drew, by simp, fun h => by cases h⟩, s5.drew⟩ ?_
    refine t_pure (.pointer (some ⟨w.heap.size, 0, none⟩)) (fun _ => rfl) (fun b γ W h => h) (fun b γ W h _ => by go_simp) ?_
    refine t_pure (.slice (some ⟨r, 0, none⟩) l.length l.length) (fun _ => rfl) (fun b γ W h => h) (fun b γ W h _ => by have x0 := h.1.cell 0; simp at x0; go_simp) ?_
    refine t_pure (.pointer (some ⟨g, 0, none⟩)) (fun _ => rfl) (fun b γ W h => h) (fun b γ W h _ => by go_simp) ?_
    refine t_pure (.pointer (some ⟨g, 0, none⟩)) (fun _ => rfl) (fun b γ W h => h) (fun b γ W h _ => by have x0 := h.2.1.cell 0; simp at x0; go_simp) ?_
    refine t_pure (.pointer (some ⟨g, 0, none⟩)) (fun _ => rfl) (fun b γ W h => h) (fun b γ W h _ => by go_simp) ?_
    refine t_pure (.slice (some ⟨gr, 0, none⟩) l.length cp) (fun _ => rfl) (fun b γ W h => h) (fun b γ W h _ => by have x0 := h.2.1.cell 0; simp at x0; go_simp) ?_
    refine t_run (.int .i64 l.length) (fun _ => rfl) (fun b γ W h _ _ _ => ?_) ?_
    · obtain ⟨q1, q2, q3, ⟨cs, q4, q5, q6⟩, q7⟩ := h
      obtain ⟨W', x1, x2, x3⟩ := copy_whole (P := Tryz.prog) 70 3 5 Tryz.underlying70 (by rw [hi, Option.map_some, hz1]) r 5 5 cs base (.slice (some ⟨gr, 0, none⟩) l.length cp) l q4 q5 q3
      refine ⟨W', ?_, ?_⟩
      · (try simp only [List.length_nil] at x1)
        go_simp
      · have hno : Value.ownBlock (.slice (some ⟨gr, 0, none⟩) l.length cp) ≠ some r := by
          simp only [Value.ownBlock, ne_eq, Option.some.injEq]; have := (World.ownsRow.lt h3 gr rfl).2; omega
        rcases x3 with rfl | ⟨xs, rfl⟩
        · exact ⟨q1, q2, q3, ⟨_, x2, byteVs_length _, fun _ => rfl⟩, q7⟩
        · exact ⟨blk_setRow q4 q1 (fun e => hrc e.symm) xs, blk_setRow q4 q2 hgr xs, q3.kept (row := some r) ⟨rfl, rfl, rfl, by simp [World.setRow], fun k _ hk => setRow_other _ r k _ (fun e => hk (by rw [e]))⟩ (.inr hno), ⟨_, x2, byteVs_length _, fun _ => rfl⟩, below_setRow q7 q4 (by omega) xs⟩
    refine t_end ?_
    intro bq gq w5 hall hS
    obtain ⟨q1, q2, q3, ⟨cs, q4, q5, q6⟩, q7⟩ := hS
    obtain rfl := q6 (hall 6 (by decide))
    simp only [Act.put, List.setIfInBounds_toArray, List.set_cons_zero, List.set_cons_succ]
    go_wp2_with fail
    go_ret
    exact ⟨rfl, ⟨r, by omega, q1, q4⟩, q7⟩
end Go.Proofs.YtpkpnaedacefaaaGreat.BusW

/- Two wires of a call's own: one and its copy. -/
namespace Go.Proofs.YtpkpnaedacefaaaGreat.BusW
set_option linter.unusedVariables false
set_option linter.unusedSimpArgs false
open Go Go.RowKit Go.Proofs.YtpkpnaedacefaaaGreat.Lib Go.Proofs.YtpkpnaedacefaaaGreat.PrintMore

/-- A wire at g, its copy at c: all that the copy has lies from B on, all that the wire has below. -/
structure Two (w0 w : World) (B g c : Nat) (l : List UInt8) (n : Nat) (t : Bool) (l' : List UInt8) (n' : Nat) (t' : Bool) : Prop where
  base : w0.heap.size ≤ B
  one : ∃ v, IsBus w w0.heap.size g v l n t ∧ g < B ∧ ∀ k, v.ownBlock = some k → k < B
  two : ∃ v, IsBus w B c v l' n' t'
  below : Below w0.heap.size w0 w
theorem Kept2.blk {w w' : World} {g k : Nat} {r : Option Nat} {T : TypeId} {cs : List Value} (h : Kept2 w w' g r) (hb : Blk w k T cs) (hg : k ≠ g) (hr : some k ≠ r) : Blk w' k T cs := (h.block k hb.lt hg hr).trans hb
theorem Kept2.own {w w' : World} {g base : Nat} {r : Option Nat} {e : TypeId} {v : Value} {l : List UInt8} (h : Kept2 w w' g r) (ho : OwnB w base e v l) (hk : ∀ k, v.ownBlock = some k → k ≠ g ∧ some k ≠ r) : OwnB w' base e v l := by
  refine ⟨ho.1, ?_⟩
  rcases ho.2 with hn | ⟨gr, cap, cur, rfl, hb2, hg2, rest⟩
  · exact .inl hn
  · have := hk gr rfl
    exact .inr ⟨gr, cap, cur, rfl, hb2, (h.block gr (Array.getElem?_eq_some_iff.1 hg2).1 this.1 this.2).trans hg2, rest⟩
theorem IsBus.low {w : World} {base base' g : Nat} {v : Value} {l : List UInt8} {n : Int} {t : Bool} (h : IsBus w base g v l n t) (hb : base' ≤ base) : IsBus w base' g v l n t := ⟨Nat.le_trans hb h.1, h.2.1, OwnB.lower h.2.2 hb⟩
section
variable {w0 w w' : World} {B g c : Nat} {l l' : List UInt8} {n n' : Nat} {t t' : Bool}
theorem Two.fst (h : Two w0 w B g c l n t l' n' t') : BusAt w0 w g l n t := by
  obtain ⟨v, h1, _⟩ := h.one
  exact ⟨⟨v, h1⟩, h.below⟩
theorem Two.snd (h : Two w0 w B g c l n t l' n' t') : BusAt w0 w c l' n' t' := by
  obtain ⟨v, h1⟩ := h.two
  exact ⟨⟨v, h1.low h.base⟩, h.below⟩
theorem Two.later (h : Two w0 w B g c l n t l' n' t') (hb : Below w.heap.size w w') : Two w0 w' B g c l n t l' n' t' := by
  obtain ⟨h0, ⟨v, ⟨a1, a2, a3⟩, a4⟩, ⟨u, ⟨b1, b2, b3⟩⟩, h4⟩ := h
  exact ⟨h0, ⟨v, ⟨a1, a2.below hb, a3.below hb⟩, a4⟩, ⟨u, ⟨b1, b2.below hb, b3.below hb⟩⟩, h4.trans (hb.mono h4.size)⟩

theorem copy_bus (h : BusAt w0 w g l n t) (hl : l.length ≤ 1000000) : Calls Tryz.prog 31 #[.pointer (some ⟨g, 0, none⟩)] w fun e w' => ∃ c, e = .returned (.pointer (some ⟨c, 0, none⟩)) ∧ Two w0 w' w.heap.size g c l n t l n t := by
  obtain ⟨⟨v, hv⟩, hb⟩ := h
  refine (copy_calls _ g v l n t w hv hl).mono ?_
  rintro e w' ⟨rfl, ⟨r, h1, h2, h3⟩, h4⟩
  refine ⟨_, rfl, hb.size, ⟨v, ⟨hv.1, hv.2.1.below h4, hv.2.2.below h4⟩, hv.2.1.lt, fun k hk => (World.ownsRow.lt hv.2.2 k hk).2⟩, ⟨_, Nat.le_refl _, h2, ?_⟩, hb.trans (h4.mono hb.size)⟩
  exact Blk.own h3 (by omega) (by rw [byteVs_length]) (by unfold maxLen; omega)
theorem step_two (s : ByteArray) (h : Two w0 w B g c l n t l' n' t') (hl : l'.length < 8000) (hn : n' ≤ 1000000) :
    Calls Tryz.prog 27 #[.pointer (some ⟨c, 0, none⟩), .string s] w fun e w' => e = .returned (.int .u8 ((bitC s t').toNat : Int)) ∧ Two w0 w' B g c l n t (l' ++ [bitC s t']) (n' + 1) false := by
  obtain ⟨h0, ⟨v, ⟨a1, a2, a3⟩, a4, a5⟩, ⟨u, hu⟩, h4⟩ := h
  refine (step_small B c u l' n' t' s w hu hl hn).mono ?_
  rintro e w' ⟨rfl, ⟨u', b1⟩, b2⟩
  have hge := own_ge hu.2.2
  refine ⟨rfl, h0, ⟨v, ⟨a1, b2.blk a2 (by have := hu.1; omega) (fun e => by have := hge g e.symm; omega), b2.own a3 (fun k hk => ?_)⟩, a4, a5⟩, ⟨u', b1⟩, b2.under h4 (by have := hu.1; omega) (fun k hk => by have := hge k hk; omega)⟩
  have := a5 k hk
  exact ⟨by have := hu.1; omega, fun e => by have := hge k e.symm; omega⟩
theorem step_one (s : ByteArray) (h : Two w0 w B g c l n t l' n' t') (hl : l.length < 8000) (hn : n ≤ 1000000) :
    Calls Tryz.prog 27 #[.pointer (some ⟨g, 0, none⟩), .string s] w fun e w' => e = .returned (.int .u8 ((bitC s t).toNat : Int)) ∧ BusAt w0 w' g (l ++ [bitC s t]) (n + 1) false ∧ BusAt w0 w' c l' n' t' := by
  obtain ⟨h0, ⟨v, hv, a4, a5⟩, ⟨u, b1, b2, b3⟩, h4⟩ := h
  refine (step_small _ g v l n t s w hv hl hn).mono ?_
  rintro e w' ⟨rfl, ⟨v', c1⟩, c2⟩
  have hbl := c2.under h4 hv.1 (own_ge hv.2.2)
  have hge := own_ge b3
  refine ⟨rfl, ⟨⟨v', c1⟩, hbl⟩, ⟨u, Nat.le_trans h0 b1, c2.blk b2 (by omega) (fun e => by have := a5 c e.symm; omega), OwnB.lower (c2.own b3 (fun k hk => ?_)) h0⟩, hbl⟩
  have := hge k hk
  exact ⟨by omega, fun e => by have := a5 k e.symm; omega⟩
theorem trace_any (h : BusAt w0 w g l n t) (hl : l.length ≤ 1000000) :
    Calls Tryz.prog 17 #[.pointer (some ⟨g, 0, none⟩)] w fun e w' => e = .returned (.string ⟨(tailOf l).toArray⟩) ∧ Below w.heap.size w w' := by
  obtain ⟨v, hv⟩ := h.bus
  exact trace_calls _ g v l n t w hv hl
end
end Go.Proofs.YtpkpnaedacefaaaGreat.BusW

/- Two wires, continued: a wire goes on while its copy waits, then the copy. -/
namespace Go.Proofs.YtpkpnaedacefaaaGreat.BusW
set_option linter.unusedVariables false
set_option linter.unusedSimpArgs false
open Go Go.RowKit Go.Proofs.YtpkpnaedacefaaaGreat.Lib Go.Proofs.YtpkpnaedacefaaaGreat.PrintMore

/-- A row of the call's own that is longer than a whole block lies elsewhere. -/
theorem own_longer {w : World} {base r : Nat} {e T : TypeId} {v : Value} {l : List UInt8} {cs : List Value} (h : OwnB w base e v l) (hb : Blk w r T cs) (hl : cs.length < l.length) : v.ownBlock ≠ some r := by
  rcases h.2 with ⟨rfl, _⟩ | ⟨g, cap, cur, rfl, _, hg, hle, _, hs, _⟩
  · simp [Value.ownBlock]
  · intro e2
    simp only [Value.ownBlock, Option.some.injEq] at e2
    subst e2
    unfold Blk at hb
    rw [hg] at hb
    simp only [Option.some.injEq, Obj.cells.injEq] at hb
    have := congrArg Array.size hb.1
    simp at this
    omega

/-- A wire at g and its copy at c, no row of the one being the other's. -/
structure Apart (w0 w : World) (g c : Nat) (l : List UInt8) (n : Nat) (t : Bool) (l' : List UInt8) (n' : Nat) (t' : Bool) : Prop where
  one : ∃ v u, IsBus w w0.heap.size g v l n t ∧ IsBus w w0.heap.size c u l' n' t' ∧ g ≠ c ∧ (∀ k, u.ownBlock = some k → k ≠ g ∧ v.ownBlock ≠ some k) ∧ v.ownBlock ≠ some c
  below : Below w0.heap.size w0 w
section
variable {w0 w w' : World} {g c : Nat} {l l' : List UInt8} {n n' : Nat} {t t' : Bool}
theorem Apart.fst (h : Apart w0 w g c l n t l' n' t') : BusAt w0 w g l n t := by
  obtain ⟨v, u, h1, _⟩ := h.one
  exact ⟨⟨v, h1⟩, h.below⟩
theorem Apart.snd (h : Apart w0 w g c l n t l' n' t') : BusAt w0 w c l' n' t' := by
  obtain ⟨v, u, _, h1, _⟩ := h.one
  exact ⟨⟨u, h1⟩, h.below⟩
theorem Apart.later (h : Apart w0 w g c l n t l' n' t') (hb : Below w.heap.size w w') : Apart w0 w' g c l n t l' n' t' := by
  obtain ⟨⟨v, u, ⟨a1, a2, a3⟩, ⟨b1, b2, b3⟩, h3⟩, h4⟩ := h
  exact ⟨⟨v, u, ⟨a1, a2.below hb, a3.below hb⟩, ⟨b1, b2.below hb, b3.below hb⟩, h3⟩, h4.trans (hb.mono h4.size)⟩
/-- The copy's bit: the wire stays. -/
theorem step_apart (s : ByteArray) (h : Apart w0 w g c l n t l' n' t') (hl : l'.length < 8000) (hn : n' ≤ 1000000) :
    Calls Tryz.prog 27 #[.pointer (some ⟨c, 0, none⟩), .string s] w fun e w' => e = .returned (.int .u8 ((bitC s t').toNat : Int)) ∧ BusAt w0 w' g l n t := by
  obtain ⟨⟨v, u, ⟨a1, a2, a3⟩, hu, h1, h2, h3⟩, h4⟩ := h
  refine (step_small _ c u l' n' t' s w hu hl hn).mono ?_
  rintro e w' ⟨rfl, _, b2⟩
  refine ⟨rfl, ⟨v, a1, b2.blk a2 h1 (fun e => (h2 g e.symm).1 rfl), b2.own a3 (fun k hk => ⟨fun e => h3 (by rw [hk, e]), fun e => (h2 k e.symm).2 hk⟩)⟩, b2.under h4 hu.1 (own_ge hu.2.2)⟩
/-- A wire at g and at c its copy, just made: the copy's row is a block as long as it. -/
structure Copied (w0 w : World) (g c : Nat) (l : List UInt8) (n : Nat) (t : Bool) : Prop where
  one : ∃ v r, IsBus w w0.heap.size g v l n t ∧ w0.heap.size ≤ c ∧ w0.heap.size ≤ r ∧ Blk w c 86 [.slice (some ⟨r, 0, none⟩) l.length l.length, .int .i64 n, .bool t] ∧ Blk w r 5 (byteVs l) ∧ g ≠ c ∧ r ≠ g ∧ r ≠ c ∧ v.ownBlock ≠ some r ∧ v.ownBlock ≠ some c
  len : l.length ≤ 1000000
  below : Below w0.heap.size w0 w
theorem copy_copied (h : BusAt w0 w g l n t) (hl : l.length ≤ 1000000) : Calls Tryz.prog 31 #[.pointer (some ⟨g, 0, none⟩)] w fun e w' => ∃ c, e = .returned (.pointer (some ⟨c, 0, none⟩)) ∧ Copied w0 w' g c l n t := by
  obtain ⟨⟨v, hv⟩, hb⟩ := h
  refine (copy_calls _ g v l n t w hv hl).mono ?_
  rintro e w' ⟨rfl, ⟨r, h1, h2, h3⟩, h4⟩
  have hgl := hv.2.1.lt
  have hlt := fun k hk => (World.ownsRow.lt hv.2.2 k hk).2
  have hs := hb.size
  refine ⟨_, rfl, ⟨v, r, ⟨hv.1, hv.2.1.below h4, hv.2.2.below h4⟩, hs, by omega, h2, h3, by omega, by omega, by omega, fun e => ?_, fun e => ?_⟩, hl, hb.trans (h4.mono hs)⟩
  · have := hlt r e; omega
  · have := hlt _ e; omega
theorem Copied.fst (h : Copied w0 w g c l n t) : BusAt w0 w g l n t := by
  obtain ⟨v, r, h1, _⟩ := h.one
  exact ⟨⟨v, h1⟩, h.below⟩
/-- The wire's bit: the copy stays. -/
theorem step_copied (s : ByteArray) (h : Copied w0 w g c l n t) (hl : l.length < 8000) (hn : n ≤ 1000000) :
    Calls Tryz.prog 27 #[.pointer (some ⟨g, 0, none⟩), .string s] w fun e w' => e = .returned (.int .u8 ((bitC s t).toNat : Int)) ∧ Apart w0 w' g c (l ++ [bitC s t]) (n + 1) false l n t := by
  obtain ⟨⟨v, r, hv, h1, h2, h3, h4, h5, h6, h7, h8, h9⟩, h10, h11⟩ := h
  refine (step_small _ g v l n t s w hv hl hn).mono ?_
  rintro e w' ⟨rfl, ⟨v', c1⟩, c2⟩
  have hc := c2.blk h3 (fun e => h5 e.symm) (fun e => h9 e.symm)
  have hr := c2.blk h4 h6 (fun e => h8 e.symm)
  refine ⟨rfl, ⟨v', .slice (some ⟨r, 0, none⟩) l.length l.length, c1, ⟨h1, hc, Blk.own hr h2 (by rw [byteVs_length]) (by unfold maxLen; omega)⟩, h5, fun k hk => ?_, c1.2.2.ne hc (by decide)⟩, c2.under h11 hv.1 (own_ge hv.2.2)⟩
  obtain rfl : r = k := by simpa [Value.ownBlock] using hk
  exact ⟨h6, own_longer c1.2.2 hr (by rw [byteVs_length]; simp)⟩
end
end Go.Proofs.YtpkpnaedacefaaaGreat.BusW

/- The walks of package bus, continued: a bit more where the row is cut first. -/
namespace Go.Proofs.YtpkpnaedacefaaaGreat.BusW
set_option linter.unusedVariables false
set_option linter.unusedSimpArgs false
open Go Go.RowKit Go.Proofs.YtpkpnaedacefaaaGreat.Lib Go.Proofs.YtpkpnaedacefaaaGreat.PrintMore
attribute [local go_sem] max2_int min2_int max_two min_two

/-- 'copy(b, b[m:])' of a row of the call's own: its beginning is what stood at m. -/
theorem copy_down {P : Program} {w : World} (dT ty elem : TypeId) (hu : P.underlying dT = some (.slice elem)) (hs : (P.info? elem).map (·.size) = some 1) (base gr cp m : Nat) (l : List UInt8)
    (hown : OwnB w base elem (.slice (some ⟨gr, 0, none⟩) l.length cp) l) (hm : m ≤ l.length) :
    ∃ xs, (Builtin.copy_ #[dT, dT] ty #[.slice (some ⟨gr, 0, none⟩) l.length cp, .slice (some ⟨gr, m, none⟩) (l.length - m) (cp - m)]).run P w = .ok (.int .i64 ((l.length - m : Nat) : Int)) (w.setRow gr xs) ∧
      OwnB (w.setRow gr xs) base elem (.slice (some ⟨gr, 0, none⟩) (l.length - m) cp) (l.drop m) := by
  rcases hown.2 with ⟨h1, _⟩ | ⟨g', cap, cur, h1, hb, hg, hle, hmx, hsz, hcur⟩
  · simp at h1
  · simp only [Value.slice.injEq, Option.some.injEq, Addr.mk.injEq, and_true, true_and] at h1
    obtain ⟨rfl, rfl⟩ := h1
    have hlen : (byteVs (l.drop m)).length = l.length - m := by rw [byteVs_length, List.length_drop]
    have hrun := run_copy_row (P := P) w dT dT ty elem gr 0 l.length cp ⟨gr, m, none⟩ (l.length - m) (cp - m) cur elem (byteVs (l.drop m)) hu hs hg (by rw [hlen]; exact (Nat.min_eq_left (Nat.sub_le _ _)).symm)
      (fun j u hj => by
        have hjl : j < l.length - m := by have := (List.getElem?_eq_some_iff.1 hj).1; omega
        have ha : (⟨gr, m, none⟩ : Addr).add j = (⟨gr, 0, none⟩ : Addr).add (m + j) := by
          unfold Addr.add
          by_cases h0 : j = 0
          · subst h0; by_cases hm0 : m = 0 <;> simp [hm0]
          · simp [h0]
        rw [ha]
        refine World.ownsRow.cells (g := gr) hown rfl (m + j) u ?_
        rw [← hj]
        simp [byteVs])
      (by rw [hlen]; omega) (fun u hu => by
        simp only [byteVs, List.mem_map] at hu
        obtain ⟨x, _, rfl⟩ := hu
        rfl)
    refine ⟨(cur.toList.take 0 ++ byteVs (l.drop m) ++ cur.toList.drop (0 + (byteVs (l.drop m)).length)).toArray, hrun.trans ?_, ?_⟩
    · rw [hlen]; rfl
    · have hset := setRow_heap w gr cur (cur.toList.take 0 ++ byteVs (l.drop m) ++ cur.toList.drop (0 + (byteVs (l.drop m)).length)).toArray elem (0, 0) hg
      have e2 : (l.drop m).length = l.length - m := List.length_drop
      refine ⟨by simp [byteVs_length], .inr ⟨gr, cp, _, by rw [e2], hb, hset, by rw [e2]; omega, hmx, ?_, ?_⟩⟩
      · simp [byteVs_length]
        omega
      · rw [List.length_drop]
        simp only [List.take_zero, List.nil_append]
        rw [List.take_append_of_le_length (by rw [hlen]; omega), List.take_of_length_le (by rw [hlen]; omega)]

/-- The row, cut, with one bit more. -/
def cutOf (l : List UInt8) : List UInt8 := l.drop (l.length - 4000)
theorem kept2_cut {w w8 : World} {g gr : Nat} {n cp : Nat} {xs : Array Value} {x : Value} (t : Bool) (u u0 u1 : Value) (h : (((((if t then w.setCell ⟨g, 2, none⟩ (.bool false) else w).drew).setRow gr xs).setCell ⟨g, 0, none⟩ u).alloc (.cells #[x] 5)).grownBy w8 (some gr)) :
    Kept2 w ((w8.setCell ⟨g, 0, none⟩ u0).setCell ⟨g, 1, none⟩ u1) g (some gr) := by
  have hw : ((((if t then w.setCell ⟨g, 2, none⟩ (.bool false) else w).drew).setRow gr xs).setCell ⟨g, 0, none⟩ u).heap.size = w.heap.size := by cases t <;> simp [World.setCell, World.setRow]
  refine ⟨?_, ?_, ?_, ?_, ?_⟩
  · have := h.os; cases t <;> exact this
  · have := h.tape; cases t <;> exact this
  · have := h.output; cases t <;> exact this
  · have := h.size
    simp [World.setCell] at this hw ⊢
    omega
  · intro k hk hg hr
    have e1 : ((w8.setCell ⟨g, 0, none⟩ u0).setCell ⟨g, 1, none⟩ u1).heap[k]? = w8.heap[k]? :=
      (Below.heap_setCell _ ⟨g, 1, none⟩ u1 k hg).trans (Below.heap_setCell _ ⟨g, 0, none⟩ u0 k hg)
    have hkr : k ≠ gr := fun e => hr (by rw [e])
    rw [e1, h.block k (by show k < (Array.push _ _).size; rw [Array.size_push, hw]; omega) hr, Below.heap_alloc _ _ k (by omega)]
    refine (Below.heap_setCell _ ⟨g, 0, none⟩ u k hg).trans ((setRow_other _ gr k xs hkr).trans ?_)
    cases t
    · rfl
    · exact Below.heap_setCell _ ⟨g, 2, none⟩ _ k hg
/-- What the region that cuts the row keeps. -/
structure CutInv (W1 : World) (base g gr cp : Nat) (l : List UInt8) (n : Int) (b : Nat → Bool) (W : World) : Prop where
  cell : ∃ x, Blk W g 86 [x, .int .i64 n, .bool false] ∧ (b 24 = false → x = .slice (some ⟨gr, 0, none⟩) l.length cp) ∧ (b 24 = true → x = .slice (some ⟨gr, 0, none⟩) 4000 cp)
  fst : b 20 = false → W = W1.drew
  snd : b 20 = true → b 24 = false → ∃ xs, W = (W1.drew).setRow gr xs ∧ OwnB W base 5 (.slice (some ⟨gr, 0, none⟩) 4000 cp) (cutOf l)
  thd : b 24 = true → ∃ xs, W = ((W1.drew).setRow gr xs).setCell ⟨g, 0, none⟩ (.slice (some ⟨gr, 0, none⟩) 4000 cp) ∧ OwnB ((W1.drew).setRow gr xs) base 5 (.slice (some ⟨gr, 0, none⟩) 4000 cp) (cutOf l)

set_option maxRecDepth 100000 in
set_option maxHeartbeats 3200000 in
theorem step_cut (base g : Nat) (v : Value) (l : List UInt8) (n : Nat) (t : Bool) (s : ByteArray) (w : World) (h : IsBus w base g v l n t) (hl : 8000 ≤ l.length) (hl2 : l.length ≤ 1000000) (hn : n ≤ 1000000) :
    Calls Tryz.prog 27 #[.pointer (some ⟨g, 0, none⟩), .string s] w fun e w' => e = .returned (.int .u8 ((bitC s t).toNat : Int)) ∧
      (∃ v', IsBus w' base g v' (cutOf l ++ [bitC s t]) ((n + 1 : Nat) : Int) false) ∧ Kept2 w w' g v.ownBlock := by
  obtain ⟨h1, h2, h3⟩ := h
  obtain ⟨i0, hi, hz0, hz1, hz2⟩ := info_parts info_u8
  have hc0 := h2.cell 0
  have hc1 := h2.cell 1
  have hc2 := h2.cell 2
  have hf2 := h2.frozen 2
  simp at hc0 hc1 hc2
  have hne := h3.ne h2 (by decide)
  have hx := index_has s.data.toList 48
  have hlen := own_len h3
  have HN : Hd (n ≤ 1000000) := ⟨hn⟩
  have hl0 : ((8000 : Int) ≤ (l.length : Int)) = True := eq_true (by omega)
  have hll : ((l.length : Int) ≥ 8000) = True := eq_true (by omega)
  have HL : Hd (8000 ≤ l.length ∧ l.length ≤ 1000000) := ⟨⟨hl, hl2⟩⟩
  have hB : base ≤ w.heap.size := Nat.le_trans h1 (Nat.le_of_lt h2.lt)
  rcases hlen with ⟨rfl, hz⟩ | ⟨gr, cp, rfl, hcp⟩
  · omega
  have hgr : gr ≠ g := by simpa [Value.ownBlock] using hne
  clear hn hl hl2
  cases hlow : s.data.toList.contains 48
  · cases t
    · rw [hlow] at hx
      have hx2 : decide (0 ≤ Go.Lib.indexByte s.data.toList 48) = false := hx
      have hbit : bitC s false = 49 := bit_val s _ _ hlow
      rw [hbit]
      clear hx hlow hbit
      have hk2 := h2
      have hk3 := h3
      have HK2 := Hd.mk hk2
      have HK3 := Hd.mk hk3
      have HKC := Hd.mk (fun (xs : Array Value) (x u u0 u1 : Value) (w8 : World) (h : (((((w).drew).setRow gr xs).setCell ⟨g, 0, none⟩ u).alloc (.cells #[x] 5)).grownBy w8 (some gr)) => kept2_cut (w := w) (n := n) (cp := cp) false u u0 u1 h)
      clear hk2 hk3
      go_enter Tryz.func27, Tryz.ntmps27
      go_wp2_with (go_at_call 38; refine (index_calls _ _ _).mono ?_; rintro e w' ⟨rfl, hww⟩; have hww := hww.symm; subst hww)
      have e1 : IntKind.i64.wrap ((l.length : Int) - 4000) = (l.length : Int) - 4000 := by rw [IntKind.wrap_i64]; have := HL.out; omega
      refine region_text (by kernel_rfl) (by kernel_rfl) (fun b _ W => CutInv w base g gr cp l n b W) ⟨⟨_, HK2.out.drew, fun _ => rfl, fun h => by simp at h⟩, fun _ => rfl, fun h => by simp at h, fun h => by simp at h⟩ ?_
      refine t_pure (.pointer (some ⟨g, 0, none⟩)) (fun _ => rfl) (fun b γ W h => ⟨h.cell, h.fst, h.snd, h.thd⟩) (fun b γ W h _ => by go_simp) ?_
      refine t_pure (.pointer (some ⟨g, 0, none⟩)) (fun _ => rfl) (fun b γ W h => ⟨h.cell, h.fst, h.snd, h.thd⟩) (fun b γ W h _ => by go_simp) ?_
      refine t_pure (.pointer (some ⟨g, 0, none⟩)) (fun _ => rfl) (fun b γ W h => ⟨h.cell, h.fst, h.snd, h.thd⟩) (fun b γ W h _ => by go_simp) ?_
      refine t_pure (.pointer (some ⟨g, 0, none⟩)) (fun _ => rfl) (fun b γ W h => ⟨h.cell, h.fst, h.snd, h.thd⟩) (fun b γ W h _ => by go_simp) ?_
      refine t_run (.slice (some ⟨gr, 0, none⟩) l.length cp) (fun _ => rfl) (fun b γ W h hb _ hf => ⟨W, ?_, ⟨h.cell, h.fst, h.snd, h.thd⟩⟩) ?_
      · have hb24 : b 24 = false := hf 24 _ rfl (by decide)
        obtain ⟨x, hx1, hx2, hx3⟩ := h.cell
        obtain rfl := hx2 hb24
        have x0 := hx1.cell 0
        simp at x0
        go_simp
      refine t_pure (.pointer (some ⟨g, 0, none⟩)) (fun _ => rfl) (fun b γ W h => ⟨h.cell, h.fst, h.snd, h.thd⟩) (fun b γ W h _ => by go_simp) ?_
      refine t_pure (.pointer (some ⟨g, 0, none⟩)) (fun _ => rfl) (fun b γ W h => ⟨h.cell, h.fst, h.snd, h.thd⟩) (fun b γ W h _ => by go_simp) ?_
      refine t_pure (.pointer (some ⟨g, 0, none⟩)) (fun _ => rfl) (fun b γ W h => ⟨h.cell, h.fst, h.snd, h.thd⟩) (fun b γ W h _ => by go_simp) ?_
      refine t_run (.slice (some ⟨gr, 0, none⟩) l.length cp) (fun _ => rfl) (fun b γ W h hb _ hf => ⟨W, ?_, ⟨h.cell, h.fst, h.snd, h.thd⟩⟩) ?_
      · have hb24 : b 24 = false := hf 24 _ rfl (by decide)
        obtain ⟨x, hx1, hx2, hx3⟩ := h.cell
        obtain rfl := hx2 hb24
        have x0 := hx1.cell 0
        simp at x0
        go_simp
      refine t_pure (.pointer (some ⟨g, 0, none⟩)) (fun _ => rfl) (fun b γ W h => ⟨h.cell, h.fst, h.snd, h.thd⟩) (fun b γ W h _ => by go_simp) ?_
      refine t_pure (.pointer (some ⟨g, 0, none⟩)) (fun _ => rfl) (fun b γ W h => ⟨h.cell, h.fst, h.snd, h.thd⟩) (fun b γ W h _ => by go_simp) ?_
      refine t_pure (.pointer (some ⟨g, 0, none⟩)) (fun _ => rfl) (fun b γ W h => ⟨h.cell, h.fst, h.snd, h.thd⟩) (fun b γ W h _ => by go_simp) ?_
      refine t_run (.slice (some ⟨gr, 0, none⟩) l.length cp) (fun _ => rfl) (fun b γ W h hb _ hf => ⟨W, ?_, ⟨h.cell, h.fst, h.snd, h.thd⟩⟩) ?_
      · have hb24 : b 24 = false := hf 24 _ rfl (by decide)
        obtain ⟨x, hx1, hx2, hx3⟩ := h.cell
        obtain rfl := hx2 hb24
        have x0 := hx1.cell 0
        simp at x0
        go_simp
      refine t_pure (.pointer (some ⟨g, 0, none⟩)) (fun _ => rfl) (fun b γ W h => ⟨h.cell, h.fst, h.snd, h.thd⟩) (fun b γ W h _ => by go_simp) ?_
      refine t_pure (.pointer (some ⟨g, 0, none⟩)) (fun _ => rfl) (fun b γ W h => ⟨h.cell, h.fst, h.snd, h.thd⟩) (fun b γ W h _ => by go_simp) ?_
      refine t_pure (.pointer (some ⟨g, 0, none⟩)) (fun _ => rfl) (fun b γ W h => ⟨h.cell, h.fst, h.snd, h.thd⟩) (fun b γ W h _ => by go_simp) ?_
      refine t_run (.slice (some ⟨gr, 0, none⟩) l.length cp) (fun _ => rfl) (fun b γ W h hb _ hf => ⟨W, ?_, ⟨h.cell, h.fst, h.snd, h.thd⟩⟩) ?_
      · have hb24 : b 24 = false := hf 24 _ rfl (by decide)
        obtain ⟨x, hx1, hx2, hx3⟩ := h.cell
        obtain rfl := hx2 hb24
        have x0 := hx1.cell 0
        simp at x0
        go_simp
      refine t_pure (.int .i64 l.length) (fun _ => rfl) (fun b γ W h => ⟨h.cell, h.fst, h.snd, h.thd⟩) (fun b γ W h _ => by go_simp) ?_
      refine t_pure (.int .i64 ((l.length : Int) - 4000)) (fun _ => rfl) (fun b γ W h => ⟨h.cell, h.fst, h.snd, h.thd⟩) (fun b γ W h _ => by go_simp) ?_
      refine t_pure (.slice (some ⟨gr, l.length - 4000, none⟩) 4000 (cp - (l.length - 4000))) (fun _ => rfl) (fun b γ W h => ⟨h.cell, h.fst, h.snd, h.thd⟩) (fun b γ W h _ => ?_) ?_
      · have q1 := HL.out
        have q2 : (0 : Int) ≤ (l.length : Int) - 4000 := by omega
        have q3 : (l.length : Int) - 4000 ≤ l.length := by omega
        have q4 : ((l.length : Int) - 4000).toNat = l.length - 4000 := by omega
        have q5 : l.length - (l.length - 4000) = 4000 := by omega
        have q6 : (cp = l.length - 4000) = False := eq_false (by omega)
        have q7 : ((l.length : Int) < 4000) = False := eq_false (by omega)
        go_simp
      refine t_run (.int .i64 4000) (fun _ => rfl) (fun b γ W h hb hn hf => ?_) ?_
      · have hb24 : b 24 = false := hf 24 _ rfl (by decide)
        have q1 := HL.out
        obtain rfl := h.fst hb
        obtain ⟨x, hx1, hx2, hx3⟩ := h.cell
        obtain rfl := hx2 hb24
        obtain ⟨xs, y1, y2⟩ := copy_down (P := Tryz.prog) (w := (w).drew) 70 3 5 Tryz.underlying70 (by rw [hi, Option.map_some, hz1]) base gr cp (l.length - 4000) l (HK3.out.kept (row := none) (by exact grown_drew (grown_refl _ _)) (.inr (by simp [Value.ownBlock]))) (by omega)
        have e4 : l.length - (l.length - 4000) = 4000 := by omega
        rw [e4] at y1 y2
        refine ⟨(w).drew.setRow gr xs, by go_simp, ?_⟩
        have hb24' : up b 20 24 = false := by simp [up, hb24]
        exact ⟨⟨_, (setRow_other _ gr g xs hgr.symm).trans hx1, fun _ => rfl, fun h => by rw [hb24'] at h; cases h⟩, fun h => by simp [up] at h, fun _ _ => ⟨xs, rfl, y2⟩, fun h => by rw [hb24'] at h; cases h⟩
      refine t_pure (.slice (some ⟨gr, 0, none⟩) 4000 cp) (fun _ => rfl) (fun b γ W h => ⟨h.cell, h.fst, h.snd, h.thd⟩) (fun b γ W h _ => ?_) ?_
      · have q1 := HL.out
        have q2 : (4000 : Int) ≤ cp := by omega
        go_simp
      refine t_pure (.pointer (some ⟨g, 0, none⟩)) (fun _ => rfl) (fun b γ W h => ⟨h.cell, h.fst, h.snd, h.thd⟩) (fun b γ W h _ => by go_simp) ?_
      refine t_pure (.pointer (some ⟨g, 0, none⟩)) (fun _ => rfl) (fun b γ W h => ⟨h.cell, h.fst, h.snd, h.thd⟩) (fun b γ W h _ => by go_simp) ?_
      refine t_store (fun _ => rfl) (fun b γ W h hb hn hf => ?_) ?_
      · have h20 : b 20 = true := hn 20 (by decide)
        obtain ⟨xs, rfl, y2⟩ := h.snd h20 hb
        obtain ⟨x, hx1, hx2, hx3⟩ := h.cell
        have x0 := hx1.cell 0
        have f0 := hx1.frozen 0
        simp at x0
        refine ⟨((w).drew.setRow gr xs).setCell ⟨g, 0, none⟩ (.slice (some ⟨gr, 0, none⟩) 4000 cp), by go_simp, ⟨_, hx1.set 0 _, fun h => by simp [up] at h, fun _ => rfl⟩, fun h => ?_, fun _ h => by simp [up] at h, fun _ => ⟨xs, rfl, y2⟩⟩
        have : up b 24 20 = true := by simp [up, h20]
        rw [this] at h; cases h
      refine t_end ?_
      intro bq gq w5 hall hS
      obtain ⟨xs, rfl, y2⟩ := hS.thd (hall 24 (by decide))
      obtain ⟨x, hx1, hx2, hx3⟩ := hS.cell
      have z1 := hx3 (hall 24 (by decide))
      subst z1
      clear hS hall hx2 hx3 e1
      have y3 := y2.set 0 (.slice (some ⟨gr, 0, none⟩) 4000 cp) (g := g) (by simpa [Value.ownBlock] using hgr)
      simp only [Act.put, List.setIfInBounds_toArray, List.set_cons_zero, List.set_cons_succ]
      generalize hw5 : ((((w).drew).setRow gr xs).setCell ⟨g, 0, none⟩ (.slice (some ⟨gr, 0, none⟩) 4000 cp)) = w5 at *
      have HW5 := Hd.mk hw5
      clear hw5 hc0 hc1 hc2 hf2
      have z3 : base ≤ w5.heap.size := Nat.le_trans h1 (Nat.le_of_lt hx1.lt)
      have x0 := hx1.cell 0
      have x1 := hx1.cell 1
      simp at x0 x1
      have hcl : (cutOf l).length = 4000 := by have := HL.out; unfold cutOf; rw [List.length_drop]; omega
      have HCL := Hd.mk hcl
      clear hcl
      go_wp2_with (at_builtin; refine app_byte rfl (.tmp 54) (.tmp 56) 70 rfl base 5 i0 Tryz.underlying70 hi hz0 hz1 hz2 (.slice (some ⟨gr, 0, none⟩) 4000 cp) (cutOf l) rfl y3 49 _ rfl rfl (by rw [HCL.out]; omega) z3 ?_; intro v8 w8 hown8 hgrow8; obtain ⟨g8, m8, c8, rfl⟩ := own_some hown8 (by simp); have hb8 := (hx1.alloc _).grown hgrow8 (by simpa [Value.ownBlock] using hgr.symm); have k1 := hb8.cell 1; have k0 := hb8.cell 0; have q1 := hb8.frozen 1; have q0 := hb8.frozen 0; simp at k0 k1; clear x0 x1)
      go_ret
      exact ⟨rfl, ⟨_, step_end h1 HN.out hb8 hown8⟩, HKC.out xs _ _ _ _ _ (by rw [HW5.out]; exact hgrow8)⟩
    · rw [hlow] at hx
      have hx2 : decide (0 ≤ Go.Lib.indexByte s.data.toList 48) = false := hx
      have hbit : bitC s true = 48 := bit_val s _ _ hlow
      rw [hbit]
      clear hx hlow hbit
      have hk2 : Blk (w.setCell ⟨g, 2, none⟩ (.bool false)) g 86 [.slice (some ⟨gr, 0, none⟩) l.length cp, .int .i64 n, .bool false] := h2.set 2 (.bool false)
      have hk3 := h3.set 2 (.bool false) hne
      have d0 := hk2.cell 0
      have d1 := hk2.cell 1
      simp at d0 d1
      have HK2 := Hd.mk hk2
      have HK3 := Hd.mk hk3
      have HKC := Hd.mk (fun (xs : Array Value) (x u u0 u1 : Value) (w8 : World) (h : ((((((w.setCell ⟨g, 2, none⟩ (.bool false))).drew).setRow gr xs).setCell ⟨g, 0, none⟩ u).alloc (.cells #[x] 5)).grownBy w8 (some gr)) => kept2_cut (w := w) (n := n) (cp := cp) true u u0 u1 h)
      clear hk2 hk3
      go_enter Tryz.func27, Tryz.ntmps27
      go_wp2_with (go_at_call 38; refine (index_calls _ _ _).mono ?_; rintro e w' ⟨rfl, hww⟩; have hww := hww.symm; subst hww)
      have e1 : IntKind.i64.wrap ((l.length : Int) - 4000) = (l.length : Int) - 4000 := by rw [IntKind.wrap_i64]; have := HL.out; omega
      refine region_text (by kernel_rfl) (by kernel_rfl) (fun b _ W => CutInv (w.setCell ⟨g, 2, none⟩ (.bool false)) base g gr cp l n b W) ⟨⟨_, HK2.out.drew, fun _ => rfl, fun h => by simp at h⟩, fun _ => rfl, fun h => by simp at h, fun h => by simp at h⟩ ?_
      refine t_pure (.pointer (some ⟨g, 0, none⟩)) (fun _ => rfl) (fun b γ W h => ⟨h.cell, h.fst, h.snd, h.thd⟩) (fun b γ W h _ => by go_simp) ?_
      refine t_pure (.pointer (some ⟨g, 0, none⟩)) (fun _ => rfl) (fun b γ W h => ⟨h.cell, h.fst, h.snd, h.thd⟩) (fun b γ W h _ => by go_simp) ?_
      refine t_pure (.pointer (some ⟨g, 0, none⟩)) (fun _ => rfl) (fun b γ W h => ⟨h.cell, h.fst, h.snd, h.thd⟩) (fun b γ W h _ => by go_simp) ?_
      refine t_pure (.pointer (some ⟨g, 0, none⟩)) (fun _ => rfl) (fun b γ W h => ⟨h.cell, h.fst, h.snd, h.thd⟩) (fun b γ W h _ => by go_simp) ?_
      refine t_run (.slice (some ⟨gr, 0, none⟩) l.length cp) (fun _ => rfl) (fun b γ W h hb _ hf => ⟨W, ?_, ⟨h.cell, h.fst, h.snd, h.thd⟩⟩) ?_
      · have hb24 : b 24 = false := hf 24 _ rfl (by decide)
        obtain ⟨x, hx1, hx2, hx3⟩ := h.cell
        obtain rfl := hx2 hb24
        have x0 := hx1.cell 0
        simp at x0
        go_simp
      refine t_pure (.pointer (some ⟨g, 0, none⟩)) (fun _ => rfl) (fun b γ W h => ⟨h.cell, h.fst, h.snd, h.thd⟩) (fun b γ W h _ => by go_simp) ?_
      refine t_pure (.pointer (some ⟨g, 0, none⟩)) (fun _ => rfl) (fun b γ W h => ⟨h.cell, h.fst, h.snd, h.thd⟩) (fun b γ W h _ => by go_simp) ?_
      refine t_pure (.pointer (some ⟨g, 0, none⟩)) (fun _ => rfl) (fun b γ W h => ⟨h.cell, h.fst, h.snd, h.thd⟩) (fun b γ W h _ => by go_simp) ?_
      refine t_run (.slice (some ⟨gr, 0, none⟩) l.length cp) (fun _ => rfl) (fun b γ W h hb _ hf => ⟨W, ?_, ⟨h.cell, h.fst, h.snd, h.thd⟩⟩) ?_
      · have hb24 : b 24 = false := hf 24 _ rfl (by decide)
        obtain ⟨x, hx1, hx2, hx3⟩ := h.cell
        obtain rfl := hx2 hb24
        have x0 := hx1.cell 0
        simp at x0
        go_simp
      refine t_pure (.pointer (some ⟨g, 0, none⟩)) (fun _ => rfl) (fun b γ W h => ⟨h.cell, h.fst, h.snd, h.thd⟩) (fun b γ W h _ => by go_simp) ?_
      refine t_pure (.pointer (some ⟨g, 0, none⟩)) (fun _ => rfl) (fun b γ W h => ⟨h.cell, h.fst, h.snd, h.thd⟩) (fun b γ W h _ => by go_simp) ?_
      refine t_pure (.pointer (some ⟨g, 0, none⟩)) (fun _ => rfl) (fun b γ W h => ⟨h.cell, h.fst, h.snd, h.thd⟩) (fun b γ W h _ => by go_simp) ?_
      refine t_run (.slice (some ⟨gr, 0, none⟩) l.length cp) (fun _ => rfl) (fun b γ W h hb _ hf => ⟨W, ?_, ⟨h.cell, h.fst, h.snd, h.thd⟩⟩) ?_
      · have hb24 : b 24 = false := hf 24 _ rfl (by decide)
        obtain ⟨x, hx1, hx2, hx3⟩ := h.cell
        obtain rfl := hx2 hb24
        have x0 := hx1.cell 0
        simp at x0
        go_simp
      refine t_pure (.pointer (some ⟨g, 0, none⟩)) (fun _ => rfl) (fun b γ W h => ⟨h.cell, h.fst, h.snd, h.thd⟩) (fun b γ W h _ => by go_simp) ?_
      refine t_pure (.pointer (some ⟨g, 0, none⟩)) (fun _ => rfl) (fun b γ W h => ⟨h.cell, h.fst, h.snd, h.thd⟩) (fun b γ W h _ => by go_simp) ?_
      refine t_pure (.pointer (some ⟨g, 0, none⟩)) (fun _ => rfl) (fun b γ W h => ⟨h.cell, h.fst, h.snd, h.thd⟩) (fun b γ W h _ => by go_simp) ?_
      refine t_run (.slice (some ⟨gr, 0, none⟩) l.length cp) (fun _ => rfl) (fun b γ W h hb _ hf => ⟨W, ?_, ⟨h.cell, h.fst, h.snd, h.thd⟩⟩) ?_
      · have hb24 : b 24 = false := hf 24 _ rfl (by decide)
        obtain ⟨x, hx1, hx2, hx3⟩ := h.cell
        obtain rfl := hx2 hb24
        have x0 := hx1.cell 0
        simp at x0
        go_simp
      refine t_pure (.int .i64 l.length) (fun _ => rfl) (fun b γ W h => ⟨h.cell, h.fst, h.snd, h.thd⟩) (fun b γ W h _ => by go_simp) ?_
      refine t_pure (.int .i64 ((l.length : Int) - 4000)) (fun _ => rfl) (fun b γ W h => ⟨h.cell, h.fst, h.snd, h.thd⟩) (fun b γ W h _ => by go_simp) ?_
      refine t_pure (.slice (some ⟨gr, l.length - 4000, none⟩) 4000 (cp - (l.length - 4000))) (fun _ => rfl) (fun b γ W h => ⟨h.cell, h.fst, h.snd, h.thd⟩) (fun b γ W h _ => ?_) ?_
      · have q1 := HL.out
        have q2 : (0 : Int) ≤ (l.length : Int) - 4000 := by omega
        have q3 : (l.length : Int) - 4000 ≤ l.length := by omega
        have q4 : ((l.length : Int) - 4000).toNat = l.length - 4000 := by omega
        have q5 : l.length - (l.length - 4000) = 4000 := by omega
        have q6 : (cp = l.length - 4000) = False := eq_false (by omega)
        have q7 : ((l.length : Int) < 4000) = False := eq_false (by omega)
        go_simp
      refine t_run (.int .i64 4000) (fun _ => rfl) (fun b γ W h hb hn hf => ?_) ?_
      · have hb24 : b 24 = false := hf 24 _ rfl (by decide)
        have q1 := HL.out
        obtain rfl := h.fst hb
        obtain ⟨x, hx1, hx2, hx3⟩ := h.cell
        obtain rfl := hx2 hb24
        obtain ⟨xs, y1, y2⟩ := copy_down (P := Tryz.prog) (w := ((w.setCell ⟨g, 2, none⟩ (.bool false))).drew) 70 3 5 Tryz.underlying70 (by rw [hi, Option.map_some, hz1]) base gr cp (l.length - 4000) l (HK3.out.kept (row := none) (by exact grown_drew (grown_refl _ _)) (.inr (by simp [Value.ownBlock]))) (by omega)
        have e4 : l.length - (l.length - 4000) = 4000 := by omega
        rw [e4] at y1 y2
        refine ⟨((w.setCell ⟨g, 2, none⟩ (.bool false))).drew.setRow gr xs, by go_simp, ?_⟩
        have hb24' : up b 20 24 = false := by simp [up, hb24]
        exact ⟨⟨_, (setRow_other _ gr g xs hgr.symm).trans hx1, fun _ => rfl, fun h => by rw [hb24'] at h; cases h⟩, fun h => by simp [up] at h, fun _ _ => ⟨xs, rfl, y2⟩, fun h => by rw [hb24'] at h; cases h⟩
      refine t_pure (.slice (some ⟨gr, 0, none⟩) 4000 cp) (fun _ => rfl) (fun b γ W h => ⟨h.cell, h.fst, h.snd, h.thd⟩) (fun b γ W h _ => ?_) ?_
      · have q1 := HL.out
        have q2 : (4000 : Int) ≤ cp := by omega
        go_simp
      refine t_pure (.pointer (some ⟨g, 0, none⟩)) (fun _ => rfl) (fun b γ W h => ⟨h.cell, h.fst, h.snd, h.thd⟩) (fun b γ W h _ => by go_simp) ?_
      refine t_pure (.pointer (some ⟨g, 0, none⟩)) (fun _ => rfl) (fun b γ W h => ⟨h.cell, h.fst, h.snd, h.thd⟩) (fun b γ W h _ => by go_simp) ?_
      refine t_store (fun _ => rfl) (fun b γ W h hb hn hf => ?_) ?_
      · have h20 : b 20 = true := hn 20 (by decide)
        obtain ⟨xs, rfl, y2⟩ := h.snd h20 hb
        obtain ⟨x, hx1, hx2, hx3⟩ := h.cell
        have x0 := hx1.cell 0
        have f0 := hx1.frozen 0
        simp at x0
        refine ⟨(((w.setCell ⟨g, 2, none⟩ (.bool false))).drew.setRow gr xs).setCell ⟨g, 0, none⟩ (.slice (some ⟨gr, 0, none⟩) 4000 cp), by go_simp, ⟨_, hx1.set 0 _, fun h => by simp [up] at h, fun _ => rfl⟩, fun h => ?_, fun _ h => by simp [up] at h, fun _ => ⟨xs, rfl, y2⟩⟩
        have : up b 24 20 = true := by simp [up, h20]
        rw [this] at h; cases h
      refine t_end ?_
      intro bq gq w5 hall hS
      obtain ⟨xs, rfl, y2⟩ := hS.thd (hall 24 (by decide))
      obtain ⟨x, hx1, hx2, hx3⟩ := hS.cell
      have z1 := hx3 (hall 24 (by decide))
      subst z1
      clear hS hall hx2 hx3 e1
      have y3 := y2.set 0 (.slice (some ⟨gr, 0, none⟩) 4000 cp) (g := g) (by simpa [Value.ownBlock] using hgr)
      simp only [Act.put, List.setIfInBounds_toArray, List.set_cons_zero, List.set_cons_succ]
      generalize hw5 : (((((w.setCell ⟨g, 2, none⟩ (.bool false))).drew).setRow gr xs).setCell ⟨g, 0, none⟩ (.slice (some ⟨gr, 0, none⟩) 4000 cp)) = w5 at *
      have HW5 := Hd.mk hw5
      clear hw5 hc0 hc1 hc2 hf2
      have z3 : base ≤ w5.heap.size := Nat.le_trans h1 (Nat.le_of_lt hx1.lt)
      have x0 := hx1.cell 0
      have x1 := hx1.cell 1
      simp at x0 x1
      have hcl : (cutOf l).length = 4000 := by have := HL.out; unfold cutOf; rw [List.length_drop]; omega
      have HCL := Hd.mk hcl
      clear hcl
      go_wp2_with (at_builtin; refine app_byte rfl (.tmp 54) (.tmp 56) 70 rfl base 5 i0 Tryz.underlying70 hi hz0 hz1 hz2 (.slice (some ⟨gr, 0, none⟩) 4000 cp) (cutOf l) rfl y3 48 _ rfl rfl (by rw [HCL.out]; omega) z3 ?_; intro v8 w8 hown8 hgrow8; obtain ⟨g8, m8, c8, rfl⟩ := own_some hown8 (by simp); have hb8 := (hx1.alloc _).grown hgrow8 (by simpa [Value.ownBlock] using hgr.symm); have k1 := hb8.cell 1; have k0 := hb8.cell 0; have q1 := hb8.frozen 1; have q0 := hb8.frozen 0; simp at k0 k1; clear x0 x1)
      go_ret
      exact ⟨rfl, ⟨_, step_end h1 HN.out hb8 hown8⟩, HKC.out xs _ _ _ _ _ (by rw [HW5.out]; exact hgrow8)⟩
  · cases t
    · rw [hlow] at hx
      have hx2 : decide (0 ≤ Go.Lib.indexByte s.data.toList 48) = true := hx
      have hbit : bitC s false = 48 := bit_val s _ _ hlow
      rw [hbit]
      clear hx hlow hbit
      have hk2 := h2
      have hk3 := h3
      have HK2 := Hd.mk hk2
      have HK3 := Hd.mk hk3
      have HKC := Hd.mk (fun (xs : Array Value) (x u u0 u1 : Value) (w8 : World) (h : (((((w).drew).setRow gr xs).setCell ⟨g, 0, none⟩ u).alloc (.cells #[x] 5)).grownBy w8 (some gr)) => kept2_cut (w := w) (n := n) (cp := cp) false u u0 u1 h)
      clear hk2 hk3
      go_enter Tryz.func27, Tryz.ntmps27
      go_wp2_with (go_at_call 38; refine (index_calls _ _ _).mono ?_; rintro e w' ⟨rfl, hww⟩; have hww := hww.symm; subst hww)
      have e1 : IntKind.i64.wrap ((l.length : Int) - 4000) = (l.length : Int) - 4000 := by rw [IntKind.wrap_i64]; have := HL.out; omega
      refine region_text (by kernel_rfl) (by kernel_rfl) (fun b _ W => CutInv w base g gr cp l n b W) ⟨⟨_, HK2.out.drew, fun _ => rfl, fun h => by simp at h⟩, fun _ => rfl, fun h => by simp at h, fun h => by simp at h⟩ ?_
      refine t_pure (.pointer (some ⟨g, 0, none⟩)) (fun _ => rfl) (fun b γ W h => ⟨h.cell, h.fst, h.snd, h.thd⟩) (fun b γ W h _ => by go_simp) ?_
      refine t_pure (.pointer (some ⟨g, 0, none⟩)) (fun _ => rfl) (fun b γ W h => ⟨h.cell, h.fst, h.snd, h.thd⟩) (fun b γ W h _ => by go_simp) ?_
      refine t_pure (.pointer (some ⟨g, 0, none⟩)) (fun _ => rfl) (fun b γ W h => ⟨h.cell, h.fst, h.snd, h.thd⟩) (fun b γ W h _ => by go_simp) ?_
      refine t_pure (.pointer (some ⟨g, 0, none⟩)) (fun _ => rfl) (fun b γ W h => ⟨h.cell, h.fst, h.snd, h.thd⟩) (fun b γ W h _ => by go_simp) ?_
      refine t_run (.slice (some ⟨gr, 0, none⟩) l.length cp) (fun _ => rfl) (fun b γ W h hb _ hf => ⟨W, ?_, ⟨h.cell, h.fst, h.snd, h.thd⟩⟩) ?_
      · have hb24 : b 24 = false := hf 24 _ rfl (by decide)
        obtain ⟨x, hx1, hx2, hx3⟩ := h.cell
        obtain rfl := hx2 hb24
        have x0 := hx1.cell 0
        simp at x0
        go_simp
      refine t_pure (.pointer (some ⟨g, 0, none⟩)) (fun _ => rfl) (fun b γ W h => ⟨h.cell, h.fst, h.snd, h.thd⟩) (fun b γ W h _ => by go_simp) ?_
      refine t_pure (.pointer (some ⟨g, 0, none⟩)) (fun _ => rfl) (fun b γ W h => ⟨h.cell, h.fst, h.snd, h.thd⟩) (fun b γ W h _ => by go_simp) ?_
      refine t_pure (.pointer (some ⟨g, 0, none⟩)) (fun _ => rfl) (fun b γ W h => ⟨h.cell, h.fst, h.snd, h.thd⟩) (fun b γ W h _ => by go_simp) ?_
      refine t_run (.slice (some ⟨gr, 0, none⟩) l.length cp) (fun _ => rfl) (fun b γ W h hb _ hf => ⟨W, ?_, ⟨h.cell, h.fst, h.snd, h.thd⟩⟩) ?_
      · have hb24 : b 24 = false := hf 24 _ rfl (by decide)
        obtain ⟨x, hx1, hx2, hx3⟩ := h.cell
        obtain rfl := hx2 hb24
        have x0 := hx1.cell 0
        simp at x0
        go_simp
      refine t_pure (.pointer (some ⟨g, 0, none⟩)) (fun _ => rfl) (fun b γ W h => ⟨h.cell, h.fst, h.snd, h.thd⟩) (fun b γ W h _ => by go_simp) ?_
      refine t_pure (.pointer (some ⟨g, 0, none⟩)) (fun _ => rfl) (fun b γ W h => ⟨h.cell, h.fst, h.snd, h.thd⟩) (fun b γ W h _ => by go_simp) ?_
      refine t_pure (.pointer (some ⟨g, 0, none⟩)) (fun _ => rfl) (fun b γ W h => ⟨h.cell, h.fst, h.snd, h.thd⟩) (fun b γ W h _ => by go_simp) ?_
      refine t_run (.slice (some ⟨gr, 0, none⟩) l.length cp) (fun _ => rfl) (fun b γ W h hb _ hf => ⟨W, ?_, ⟨h.cell, h.fst, h.snd, h.thd⟩⟩) ?_
      · have hb24 : b 24 = false := hf 24 _ rfl (by decide)
        obtain ⟨x, hx1, hx2, hx3⟩ := h.cell
        obtain rfl := hx2 hb24
        have x0 := hx1.cell 0
        simp at x0
        go_simp
      refine t_pure (.pointer (some ⟨g, 0, none⟩)) (fun _ => rfl) (fun b γ W h => ⟨h.cell, h.fst, h.snd, h.thd⟩) (fun b γ W h _ => by go_simp) ?_
      refine t_pure (.pointer (some ⟨g, 0, none⟩)) (fun _ => rfl) (fun b γ W h => ⟨h.cell, h.fst, h.snd, h.thd⟩) (fun b γ W h _ => by go_simp) ?_
      refine t_pure (.pointer (some ⟨g, 0, none⟩)) (fun _ => rfl) (fun b γ W h => ⟨h.cell, h.fst, h.snd, h.thd⟩) (fun b γ W h _ => by go_simp) ?_
      refine t_run (.slice (some ⟨gr, 0, none⟩) l.length cp) (fun _ => rfl) (fun b γ W h hb _ hf => ⟨W, ?_, ⟨h.cell, h.fst, h.snd, h.thd⟩⟩) ?_
      · have hb24 : b 24 = false := hf 24 _ rfl (by decide)
        obtain ⟨x, hx1, hx2, hx3⟩ := h.cell
        obtain rfl := hx2 hb24
        have x0 := hx1.cell 0
        simp at x0
        go_simp
      refine t_pure (.int .i64 l.length) (fun _ => rfl) (fun b γ W h => ⟨h.cell, h.fst, h.snd, h.thd⟩) (fun b γ W h _ => by go_simp) ?_
      refine t_pure (.int .i64 ((l.length : Int) - 4000)) (fun _ => rfl) (fun b γ W h => ⟨h.cell, h.fst, h.snd, h.thd⟩) (fun b γ W h _ => by go_simp) ?_
      refine t_pure (.slice (some ⟨gr, l.length - 4000, none⟩) 4000 (cp - (l.length - 4000))) (fun _ => rfl) (fun b γ W h => ⟨h.cell, h.fst, h.snd, h.thd⟩) (fun b γ W h _ => ?_) ?_
      · have q1 := HL.out
        have q2 : (0 : Int) ≤ (l.length : Int) - 4000 := by omega
        have q3 : (l.length : Int) - 4000 ≤ l.length := by omega
        have q4 : ((l.length : Int) - 4000).toNat = l.length - 4000 := by omega
        have q5 : l.length - (l.length - 4000) = 4000 := by omega
        have q6 : (cp = l.length - 4000) = False := eq_false (by omega)
        have q7 : ((l.length : Int) < 4000) = False := eq_false (by omega)
        go_simp
      refine t_run (.int .i64 4000) (fun _ => rfl) (fun b γ W h hb hn hf => ?_) ?_
      · have hb24 : b 24 = false := hf 24 _ rfl (by decide)
        have q1 := HL.out
        obtain rfl := h.fst hb
        obtain ⟨x, hx1, hx2, hx3⟩ := h.cell
        obtain rfl := hx2 hb24
        obtain ⟨xs, y1, y2⟩ := copy_down (P := Tryz.prog) (w := (w).drew) 70 3 5 Tryz.underlying70 (by rw [hi, Option.map_some, hz1]) base gr cp (l.length - 4000) l (HK3.out.kept (row := none) (by exact grown_drew (grown_refl _ _)) (.inr (by simp [Value.ownBlock]))) (by omega)
        have e4 : l.length - (l.length - 4000) = 4000 := by omega
        rw [e4] at y1 y2
        refine ⟨(w).drew.setRow gr xs, by go_simp, ?_⟩
        have hb24' : up b 20 24 = false := by simp [up, hb24]
        exact ⟨⟨_, (setRow_other _ gr g xs hgr.symm).trans hx1, fun _ => rfl, fun h => by rw [hb24'] at h; cases h⟩, fun h => by simp [up] at h, fun _ _ => ⟨xs, rfl, y2⟩, fun h => by rw [hb24'] at h; cases h⟩
      refine t_pure (.slice (some ⟨gr, 0, none⟩) 4000 cp) (fun _ => rfl) (fun b γ W h => ⟨h.cell, h.fst, h.snd, h.thd⟩) (fun b γ W h _ => ?_) ?_
      · have q1 := HL.out
        have q2 : (4000 : Int) ≤ cp := by omega
        go_simp
      refine t_pure (.pointer (some ⟨g, 0, none⟩)) (fun _ => rfl) (fun b γ W h => ⟨h.cell, h.fst, h.snd, h.thd⟩) (fun b γ W h _ => by go_simp) ?_
      refine t_pure (.pointer (some ⟨g, 0, none⟩)) (fun _ => rfl) (fun b γ W h => ⟨h.cell, h.fst, h.snd, h.thd⟩) (fun b γ W h _ => by go_simp) ?_
      refine t_store (fun _ => rfl) (fun b γ W h hb hn hf => ?_) ?_
      · have h20 : b 20 = true := hn 20 (by decide)
        obtain ⟨xs, rfl, y2⟩ := h.snd h20 hb
        obtain ⟨x, hx1, hx2, hx3⟩ := h.cell
        have x0 := hx1.cell 0
        have f0 := hx1.frozen 0
        simp at x0
        refine ⟨((w).drew.setRow gr xs).setCell ⟨g, 0, none⟩ (.slice (some ⟨gr, 0, none⟩) 4000 cp), by go_simp, ⟨_, hx1.set 0 _, fun h => by simp [up] at h, fun _ => rfl⟩, fun h => ?_, fun _ h => by simp [up] at h, fun _ => ⟨xs, rfl, y2⟩⟩
        have : up b 24 20 = true := by simp [up, h20]
        rw [this] at h; cases h
      refine t_end ?_
      intro bq gq w5 hall hS
      obtain ⟨xs, rfl, y2⟩ := hS.thd (hall 24 (by decide))
      obtain ⟨x, hx1, hx2, hx3⟩ := hS.cell
      have z1 := hx3 (hall 24 (by decide))
      subst z1
      clear hS hall hx2 hx3 e1
      have y3 := y2.set 0 (.slice (some ⟨gr, 0, none⟩) 4000 cp) (g := g) (by simpa [Value.ownBlock] using hgr)
      simp only [Act.put, List.setIfInBounds_toArray, List.set_cons_zero, List.set_cons_succ]
      generalize hw5 : ((((w).drew).setRow gr xs).setCell ⟨g, 0, none⟩ (.slice (some ⟨gr, 0, none⟩) 4000 cp)) = w5 at *
      have HW5 := Hd.mk hw5
      clear hw5 hc0 hc1 hc2 hf2
      have z3 : base ≤ w5.heap.size := Nat.le_trans h1 (Nat.le_of_lt hx1.lt)
      have x0 := hx1.cell 0
      have x1 := hx1.cell 1
      simp at x0 x1
      have hcl : (cutOf l).length = 4000 := by have := HL.out; unfold cutOf; rw [List.length_drop]; omega
      have HCL := Hd.mk hcl
      clear hcl
      go_wp2_with (at_builtin; refine app_byte rfl (.tmp 54) (.tmp 56) 70 rfl base 5 i0 Tryz.underlying70 hi hz0 hz1 hz2 (.slice (some ⟨gr, 0, none⟩) 4000 cp) (cutOf l) rfl y3 48 _ rfl rfl (by rw [HCL.out]; omega) z3 ?_; intro v8 w8 hown8 hgrow8; obtain ⟨g8, m8, c8, rfl⟩ := own_some hown8 (by simp); have hb8 := (hx1.alloc _).grown hgrow8 (by simpa [Value.ownBlock] using hgr.symm); have k1 := hb8.cell 1; have k0 := hb8.cell 0; have q1 := hb8.frozen 1; have q0 := hb8.frozen 0; simp at k0 k1; clear x0 x1)
      go_ret
      exact ⟨rfl, ⟨_, step_end h1 HN.out hb8 hown8⟩, HKC.out xs _ _ _ _ _ (by rw [HW5.out]; exact hgrow8)⟩
    · rw [hlow] at hx
      have hx2 : decide (0 ≤ Go.Lib.indexByte s.data.toList 48) = true := hx
      have hbit : bitC s true = 49 := bit_val s _ _ hlow
      rw [hbit]
      clear hx hlow hbit
      have hk2 : Blk (w.setCell ⟨g, 2, none⟩ (.bool false)) g 86 [.slice (some ⟨gr, 0, none⟩) l.length cp, .int .i64 n, .bool false] := h2.set 2 (.bool false)
      have hk3 := h3.set 2 (.bool false) hne
      have d0 := hk2.cell 0
      have d1 := hk2.cell 1
      simp at d0 d1
      have HK2 := Hd.mk hk2
      have HK3 := Hd.mk hk3
      have HKC := Hd.mk (fun (xs : Array Value) (x u u0 u1 : Value) (w8 : World) (h : ((((((w.setCell ⟨g, 2, none⟩ (.bool false))).drew).setRow gr xs).setCell ⟨g, 0, none⟩ u).alloc (.cells #[x] 5)).grownBy w8 (some gr)) => kept2_cut (w := w) (n := n) (cp := cp) true u u0 u1 h)
      clear hk2 hk3
      go_enter Tryz.func27, Tryz.ntmps27
      go_wp2_with (go_at_call 38; refine (index_calls _ _ _).mono ?_; rintro e w' ⟨rfl, hww⟩; have hww := hww.symm; subst hww)
      have e1 : IntKind.i64.wrap ((l.length : Int) - 4000) = (l.length : Int) - 4000 := by rw [IntKind.wrap_i64]; have := HL.out; omega
      refine region_text (by kernel_rfl) (by kernel_rfl) (fun b _ W => CutInv (w.setCell ⟨g, 2, none⟩ (.bool false)) base g gr cp l n b W) ⟨⟨_, HK2.out.drew, fun _ => rfl, fun h => by simp at h⟩, fun _ => rfl, fun h => by simp at h, fun h => by simp at h⟩ ?_
      refine t_pure (.pointer (some ⟨g, 0, none⟩)) (fun _ => rfl) (fun b γ W h => ⟨h.cell, h.fst, h.snd, h.thd⟩) (fun b γ W h _ => by go_simp) ?_
      refine t_pure (.pointer (some ⟨g, 0, none⟩)) (fun _ => rfl) (fun b γ W h => ⟨h.cell, h.fst, h.snd, h.thd⟩) (fun b γ W h _ => by go_simp) ?_
      refine t_pure (.pointer (some ⟨g, 0, none⟩)) (fun _ => rfl) (fun b γ W h => ⟨h.cell, h.fst, h.snd, h.thd⟩) (fun b γ W h _ => by go_simp) ?_
      refine t_pure (.pointer (some ⟨g, 0, none⟩)) (fun _ => rfl) (fun b γ W h => ⟨h.cell, h.fst, h.snd, h.thd⟩) (fun b γ W h _ => by go_simp) ?_
      refine t_run (.slice (some ⟨gr, 0, none⟩) l.length cp) (fun _ => rfl) (fun b γ W h hb _ hf => ⟨W, ?_, ⟨h.cell, h.fst, h.snd, h.thd⟩⟩) ?_
      · have hb24 : b 24 = false := hf 24 _ rfl (by decide)
        obtain ⟨x, hx1, hx2, hx3⟩ := h.cell
        obtain rfl := hx2 hb24
        have x0 := hx1.cell 0
        simp at x0
        go_simp
      refine t_pure (.pointer (some ⟨g, 0, none⟩)) (fun _ => rfl) (fun b γ W h => ⟨h.cell, h.fst, h.snd, h.thd⟩) (fun b γ W h _ => by go_simp) ?_
      refine t_pure (.pointer (some ⟨g, 0, none⟩)) (fun _ => rfl) (fun b γ W h => ⟨h.cell, h.fst, h.snd, h.thd⟩) (fun b γ W h _ => by go_simp) ?_
      refine t_pure (.pointer (some ⟨g, 0, none⟩)) (fun _ => rfl) (fun b γ W h => ⟨h.cell, h.fst, h.snd, h.thd⟩) (fun b γ W h _ => by go_simp) ?_
      refine t_run (.slice (some ⟨gr, 0, none⟩) l.length cp) (fun _ => rfl) (fun b γ W h hb _ hf => ⟨W, ?_, ⟨h.cell, h.fst, h.snd, h.thd⟩⟩) ?_
      · have hb24 : b 24 = false := hf 24 _ rfl (by decide)
        obtain ⟨x, hx1, hx2, hx3⟩ := h.cell
        obtain rfl := hx2 hb24
        have x0 := hx1.cell 0
        simp at x0
        go_simp
      refine t_pure (.pointer (some ⟨g, 0, none⟩)) (fun _ => rfl) (fun b γ W h => ⟨h.cell, h.fst, h.snd, h.thd⟩) (fun b γ W h _ => by go_simp) ?_
      refine t_pure (.pointer (some ⟨g, 0, none⟩)) (fun _ => rfl) (fun b γ W h => ⟨h.cell, h.fst, h.snd, h.thd⟩) (fun b γ W h _ => by go_simp) ?_
      refine t_pure (.pointer (some ⟨g, 0, none⟩)) (fun _ => rfl) (fun b γ W h => ⟨h.cell, h.fst, h.snd, h.thd⟩) (fun b γ W h _ => by go_simp) ?_
      refine t_run (.slice (some ⟨gr, 0, none⟩) l.length cp) (fun _ => rfl) (fun b γ W h hb _ hf => ⟨W, ?_, ⟨h.cell, h.fst, h.snd, h.thd⟩⟩) ?_
      · have hb24 : b 24 = false := hf 24 _ rfl (by decide)
        obtain ⟨x, hx1, hx2, hx3⟩ := h.cell
        obtain rfl := hx2 hb24
        have x0 := hx1.cell 0
        simp at x0
        go_simp
      refine t_pure (.pointer (some ⟨g, 0, none⟩)) (fun _ => rfl) (fun b γ W h => ⟨h.cell, h.fst, h.snd, h.thd⟩) (fun b γ W h _ => by go_simp) ?_
      refine t_pure (.pointer (some ⟨g, 0, none⟩)) (fun _ => rfl) (fun b γ W h => ⟨h.cell, h.fst, h.snd, h.thd⟩) (fun b γ W h _ => by go_simp) ?_
      refine t_pure (.pointer (some ⟨g, 0, none⟩)) (fun _ => rfl) (fun b γ W h => ⟨h.cell, h.fst, h.snd, h.thd⟩) (fun b γ W h _ => by go_simp) ?_
      refine t_run (.slice (some ⟨gr, 0, none⟩) l.length cp) (fun _ => rfl) (fun b γ W h hb _ hf => ⟨W, ?_, ⟨h.cell, h.fst, h.snd, h.thd⟩⟩) ?_
      · have hb24 : b 24 = false := hf 24 _ rfl (by decide)
        obtain ⟨x, hx1, hx2, hx3⟩ := h.cell
        obtain rfl := hx2 hb24
        have x0 := hx1.cell 0
        simp at x0
        go_simp
      refine t_pure (.int .i64 l.length) (fun _ => rfl) (fun b γ W h => ⟨h.cell, h.fst, h.snd, h.thd⟩) (fun b γ W h _ => by go_simp) ?_
      refine t_pure (.int .i64 ((l.length : Int) - 4000)) (fun _ => rfl) (fun b γ W h => ⟨h.cell, h.fst, h.snd, h.thd⟩) (fun b γ W h _ => by go_simp) ?_
      refine t_pure (.slice (some ⟨gr, l.length - 4000, none⟩) 4000 (cp - (l.length - 4000))) (fun _ => rfl) (fun b γ W h => ⟨h.cell, h.fst, h.snd, h.thd⟩) (fun b γ W h _ => ?_) ?_
      · have q1 := HL.out
        have q2 : (0 : Int) ≤ (l.length : Int) - 4000 := by omega
        have q3 : (l.length : Int) - 4000 ≤ l.length := by omega
        have q4 : ((l.length : Int) - 4000).toNat = l.length - 4000 := by omega
        have q5 : l.length - (l.length - 4000) = 4000 := by omega
        have q6 : (cp = l.length - 4000) = False := eq_false (by omega)
        have q7 : ((l.length : Int) < 4000) = False := eq_false (by omega)
        go_simp
      refine t_run (.int .i64 4000) (fun _ => rfl) (fun b γ W h hb hn hf => ?_) ?_
      · have hb24 : b 24 = false := hf 24 _ rfl (by decide)
        have q1 := HL.out
        obtain rfl := h.fst hb
        obtain ⟨x, hx1, hx2, hx3⟩ := h.cell
        obtain rfl := hx2 hb24
        obtain ⟨xs, y1, y2⟩ := copy_down (P := Tryz.prog) (w := ((w.setCell ⟨g, 2, none⟩ (.bool false))).drew) 70 3 5 Tryz.underlying70 (by rw [hi, Option.map_some, hz1]) base gr cp (l.length - 4000) l (HK3.out.kept (row := none) (by exact grown_drew (grown_refl _ _)) (.inr (by simp [Value.ownBlock]))) (by omega)
        have e4 : l.length - (l.length - 4000) = 4000 := by omega
        rw [e4] at y1 y2
        refine ⟨((w.setCell ⟨g, 2, none⟩ (.bool false))).drew.setRow gr xs, by go_simp, ?_⟩
        have hb24' : up b 20 24 = false := by simp [up, hb24]
        exact ⟨⟨_, (setRow_other _ gr g xs hgr.symm).trans hx1, fun _ => rfl, fun h => by rw [hb24'] at h; cases h⟩, fun h => by simp [up] at h, fun _ _ => ⟨xs, rfl, y2⟩, fun h => by rw [hb24'] at h; cases h⟩
      refine t_pure (.slice (some ⟨gr, 0, none⟩) 4000 cp) (fun _ => rfl) (fun b γ W h => ⟨h.cell, h.fst, h.snd, h.thd⟩) (fun b γ W h _ => ?_) ?_
      · have q1 := HL.out
        have q2 : (4000 : Int) ≤ cp := by omega
        go_simp
      refine t_pure (.pointer (some ⟨g, 0, none⟩)) (fun _ => rfl) (fun b γ W h => ⟨h.cell, h.fst, h.snd, h.thd⟩) (fun b γ W h _ => by go_simp) ?_
      refine t_pure (.pointer (some ⟨g, 0, none⟩)) (fun _ => rfl) (fun b γ W h => ⟨h.cell, h.fst, h.snd, h.thd⟩) (fun b γ W h _ => by go_simp) ?_
      refine t_store (fun _ => rfl) (fun b γ W h hb hn hf => ?_) ?_
      · have h20 : b 20 = true := hn 20 (by decide)
        obtain ⟨xs, rfl, y2⟩ := h.snd h20 hb
        obtain ⟨x, hx1, hx2, hx3⟩ := h.cell
        have x0 := hx1.cell 0
        have f0 := hx1.frozen 0
        simp at x0
        refine ⟨(((w.setCell ⟨g, 2, none⟩ (.bool false))).drew.setRow gr xs).setCell ⟨g, 0, none⟩ (.slice (some ⟨gr, 0, none⟩) 4000 cp), by go_simp, ⟨_, hx1.set 0 _, fun h => by simp [up] at h, fun _ => rfl⟩, fun h => ?_, fun _ h => by simp [up] at h, fun _ => ⟨xs, rfl, y2⟩⟩
        have : up b 24 20 = true := by simp [up, h20]
        rw [this] at h; cases h
      refine t_end ?_
      intro bq gq w5 hall hS
      obtain ⟨xs, rfl, y2⟩ := hS.thd (hall 24 (by decide))
      obtain ⟨x, hx1, hx2, hx3⟩ := hS.cell
      have z1 := hx3 (hall 24 (by decide))
      subst z1
      clear hS hall hx2 hx3 e1
      have y3 := y2.set 0 (.slice (some ⟨gr, 0, none⟩) 4000 cp) (g := g) (by simpa [Value.ownBlock] using hgr)
      simp only [Act.put, List.setIfInBounds_toArray, List.set_cons_zero, List.set_cons_succ]
      generalize hw5 : (((((w.setCell ⟨g, 2, none⟩ (.bool false))).drew).setRow gr xs).setCell ⟨g, 0, none⟩ (.slice (some ⟨gr, 0, none⟩) 4000 cp)) = w5 at *
      have HW5 := Hd.mk hw5
      clear hw5 hc0 hc1 hc2 hf2
      have z3 : base ≤ w5.heap.size := Nat.le_trans h1 (Nat.le_of_lt hx1.lt)
      have x0 := hx1.cell 0
      have x1 := hx1.cell 1
      simp at x0 x1
      have hcl : (cutOf l).length = 4000 := by have := HL.out; unfold cutOf; rw [List.length_drop]; omega
      have HCL := Hd.mk hcl
      clear hcl
      go_wp2_with (at_builtin; refine app_byte rfl (.tmp 54) (.tmp 56) 70 rfl base 5 i0 Tryz.underlying70 hi hz0 hz1 hz2 (.slice (some ⟨gr, 0, none⟩) 4000 cp) (cutOf l) rfl y3 49 _ rfl rfl (by rw [HCL.out]; omega) z3 ?_; intro v8 w8 hown8 hgrow8; obtain ⟨g8, m8, c8, rfl⟩ := own_some hown8 (by simp); have hb8 := (hx1.alloc _).grown hgrow8 (by simpa [Value.ownBlock] using hgr.symm); have k1 := hb8.cell 1; have k0 := hb8.cell 0; have q1 := hb8.frozen 1; have q0 := hb8.frozen 0; simp at k0 k1; clear x0 x1)
      go_ret
      exact ⟨rfl, ⟨_, step_end h1 HN.out hb8 hown8⟩, HKC.out xs _ _ _ _ _ (by rw [HW5.out]; exact hgrow8)⟩
end Go.Proofs.YtpkpnaedacefaaaGreat.BusW

