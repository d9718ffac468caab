/- The walks of package bus, continued: a bit more. -/
import Derived.Test.YtlfeidakmhniaaaBusWalks
namespace Go.Proofs.Ytlfeidakmhniaaa.BusW
set_option linter.unusedVariables false
set_option linter.unusedSimpArgs false
open Go Go.RowKit Go.Proofs.Ytlfeidakmhniaaa.Lib Go.Proofs.YtlfeidakmhniaaaW.PrintMore
attribute [local go_sem] max2_int min2_int max_two min_two

/-- Whether the wire is 0. -/
def lowOf (s : ByteArray) (t : Bool) : Bool := s.data.toList.contains 48 != t
/-- The bit on the wire. -/
def bitC (s : ByteArray) (t : Bool) : UInt8 := if lowOf s t then 48 else 49
theorem own_len {w : World} {base : Nat} {e : TypeId} {v : Value} {l : List UInt8} (h : OwnB w base e v l) : (v = .slice none 0 0 ∧ l.length = 0) ∨ ∃ g c, v = .slice (some ⟨g, 0, none⟩) l.length c ∧ l.length ≤ c := by
  rcases h.2 with ⟨h1, h2⟩ | ⟨g, cap, cur, h1, _, _, h3, _⟩
  · exact .inl ⟨h1, h2⟩
  · exact .inr ⟨g, cap, h1, h3⟩

theorem own_some {w : World} {base : Nat} {e : TypeId} {v : Value} {l : List UInt8} (h : OwnB w base e v l) (hl : 0 < l.length) : ∃ g m c, v = .slice (some ⟨g, 0, none⟩) m c := by
  rcases own_len h with ⟨_, h2⟩ | ⟨g, c, h1, _⟩
  · omega
  · exact ⟨g, _, c, h1⟩
theorem kept2_of {w w8 : World} {g : Nat} {v : Value} {x : Value} (t : Bool) (u0 u1 : Value) (h : (((if t then w.setCell ⟨g, 2, none⟩ (.bool false) else w)).alloc (.cells #[x] 5)).grownBy w8 v.ownBlock) :
    Kept2 w ((w8.setCell ⟨g, 0, none⟩ u0).setCell ⟨g, 1, none⟩ u1) g v.ownBlock := by
  have hw : (if t then w.setCell ⟨g, 2, none⟩ (.bool false) else w).heap.size = w.heap.size := by cases t <;> simp [World.setCell]
  refine ⟨?_, ?_, ?_, ?_, ?_⟩
  · have := h.os; cases t <;> exact this
  · have := h.tape; cases t <;> exact this
  · have := h.output; cases t <;> exact this
  · have := h.size
    simp [World.setCell] at this hw ⊢
    omega
  · intro k hk hg hr
    have e1 : ((w8.setCell ⟨g, 0, none⟩ u0).setCell ⟨g, 1, none⟩ u1).heap[k]? = w8.heap[k]? :=
      (Below.heap_setCell _ ⟨g, 1, none⟩ u1 k hg).trans (Below.heap_setCell _ ⟨g, 0, none⟩ u0 k hg)
    rw [e1, h.block k (by simp; omega) hr, Below.heap_alloc _ _ k (by omega)]
    cases t
    · rfl
    · exact Below.heap_setCell _ ⟨g, 2, none⟩ _ k hg

theorem step_end {base g : Nat} {w8 : World} {x0 v8 : Value} {n : Nat} {l : List UInt8} (h1 : base ≤ g) (hn : n ≤ 1000000) (hb8 : Blk w8 g 45 [x0, .int .i64 n, .bool false]) (hown8 : OwnB w8 base 5 v8 l) :
    IsBus ((w8.setCell ⟨g, 0, none⟩ v8).setCell ⟨g, 1, none⟩ (.int .i64 (wrap64 ((n : Int) + 1)))) base g v8 l ((n + 1 : Nat) : Int) false := by
  have e : wrap64 ((n : Int) + 1) = ((n + 1 : Nat) : Int) := by unfold wrap64; omega
  have hno := hown8.ne hb8 (by decide)
  rw [e]
  exact ⟨h1, (hb8.set 0 _).set 1 _, (hown8.set 0 _ hno).set 1 _ hno⟩
theorem bit_val (s : ByteArray) (t low : Bool) (h : s.data.toList.contains 48 = low) : bitC s t = if low != t then 48 else 49 := by
  unfold bitC lowOf
  rw [h]

set_option maxRecDepth 100000 in
set_option maxHeartbeats 3200000 in
theorem step_small (base g : Nat) (v : Value) (l : List UInt8) (n : Nat) (t : Bool) (s : ByteArray) (w : World) (h : IsBus w base g v l n t) (hl : l.length < 8000) (hn : n ≤ 1000000) :
    Calls Try.prog 13 #[.pointer (some ⟨g, 0, none⟩), .string s] w fun e w' => e = .returned (.int .u8 ((bitC s t).toNat : Int)) ∧
      (∃ v', IsBus w' base g v' (l ++ [bitC s t]) ((n + 1 : Nat) : Int) false) ∧ Kept2 w w' g v.ownBlock := by
  obtain ⟨h1, h2, h3⟩ := h
  obtain ⟨i0, hi, hz0, hz1, hz2⟩ := info_parts info_u8
  have hc0 := h2.cell 0
  have hc1 := h2.cell 1
  have hc2 := h2.cell 2
  have hf2 := h2.frozen 2
  simp at hc0 hc1 hc2
  have hne := h3.ne h2 (by decide)
  have hx := index_has s.data.toList 48
  have hlen := own_len h3
  have HN : Hd (n ≤ 1000000) := ⟨hn⟩
  have hll : ((l.length : Int) ≥ 8000) = False := eq_false (by omega)
  have hl0 : ((8000 : Int) ≤ (l.length : Int)) = False := eq_false (by omega)
  have HL : Hd (l.length < 8000) := ⟨hl⟩
  have hB : base ≤ w.heap.size := Nat.le_trans h1 (Nat.le_of_lt h2.lt)
  have HFH := Hd.mk (fun x w8 u0 u1 (h : (((if t then w.setCell ⟨g, 2, none⟩ (.bool false) else w)).alloc (.cells #[x] 5)).grownBy w8 v.ownBlock) => kept2_of (v := v) t u0 u1 h)
  cases hlow : s.data.toList.contains 48
  · cases t
    · rw [hlow] at hx
      have hx2 : decide (0 ≤ Go.Lib.indexByte s.data.toList 48) = false := hx
      have hbit : bitC s false = 49 := bit_val s _ _ hlow
      rw [hbit]
      clear hx hlow hbit
      rcases hlen with ⟨rfl, hz⟩ | ⟨gr, cp, rfl, hcp⟩
      · clear hn hl
        go_enter Try.func13, Try.ntmps13
        go_wp2_with (first
          | (go_at_call 28; refine (index_calls _ _ _).mono ?_; rintro e w' ⟨rfl, rfl⟩)
          | (at_builtin; refine app_byte rfl (.tmp 54) (.tmp 56) 36 rfl base 5 i0 Try.underlying36 hi hz0 hz1 hz2 (.slice none 0 0) l rfl h3 49 _ rfl rfl (by have := HL.out; omega) hB ?_; intro v8 w8 hown8 hgrow8; obtain ⟨g8, m8, c8, rfl⟩ := own_some hown8 (by simp); have hb8 := (h2.alloc _).grown hgrow8 (fun h => hne h.symm); have k1 := hb8.cell 1; have k0 := hb8.cell 0; have q1 := hb8.frozen 1; have q0 := hb8.frozen 0; simp at k0 k1; clear hc0 hc1 hc2))
        go_ret
        exact ⟨rfl, ⟨_, step_end h1 HN.out hb8 hown8⟩, HFH.out _ _ _ _ hgrow8⟩
      · clear hn hl
        go_enter Try.func13, Try.ntmps13
        go_wp2_with (first
          | (go_at_call 28; refine (index_calls _ _ _).mono ?_; rintro e w' ⟨rfl, rfl⟩)
          | (at_builtin; refine app_byte rfl (.tmp 54) (.tmp 56) 36 rfl base 5 i0 Try.underlying36 hi hz0 hz1 hz2 (.slice (some ⟨gr, 0, none⟩) l.length cp) l rfl h3 49 _ rfl rfl (by have := HL.out; omega) hB ?_; intro v8 w8 hown8 hgrow8; obtain ⟨g8, m8, c8, rfl⟩ := own_some hown8 (by simp); have hb8 := (h2.alloc _).grown hgrow8 (fun h => hne h.symm); have k1 := hb8.cell 1; have k0 := hb8.cell 0; have q1 := hb8.frozen 1; have q0 := hb8.frozen 0; simp at k0 k1; clear hc0 hc1 hc2))
        go_ret
        exact ⟨rfl, ⟨_, step_end h1 HN.out hb8 hown8⟩, HFH.out _ _ _ _ hgrow8⟩
    · rw [hlow] at hx
      have hx2 : decide (0 ≤ Go.Lib.indexByte s.data.toList 48) = false := hx
      have hbit : bitC s true = 48 := bit_val s _ _ hlow
      rw [hbit]
      clear hx hlow hbit
      rcases hlen with ⟨rfl, hz⟩ | ⟨gr, cp, rfl, hcp⟩
      · clear hn hl
        have h2 : Blk (w.setCell ⟨g, 2, none⟩ (.bool false)) g 45 [(.slice none 0 0), .int .i64 n, .bool false] := h2.set 2 (.bool false)
        have h3 := h3.set 2 (.bool false) hne
        have hB2 : base ≤ (w.setCell ⟨g, 2, none⟩ (.bool false)).heap.size := by simpa [World.setCell] using hB
        have HS : Hd ((w.setCell ⟨g, 2, none⟩ (.bool false)).heap.size = w.heap.size) := ⟨by simp [World.setCell]⟩
        have d0 := h2.cell 0
        have d1 := h2.cell 1
        simp at d0 d1
        go_enter Try.func13, Try.ntmps13
        go_wp2_with (first
          | (go_at_call 28; refine (index_calls _ _ _).mono ?_; rintro e w' ⟨rfl, rfl⟩)
          | (at_builtin; refine app_byte rfl (.tmp 54) (.tmp 56) 36 rfl base 5 i0 Try.underlying36 hi hz0 hz1 hz2 (.slice none 0 0) l rfl h3 48 _ rfl (by rw [HS.out]; rfl) (by have := HL.out; omega) hB2 ?_; intro v8 w8 hown8 hgrow8; obtain ⟨g8, m8, c8, rfl⟩ := own_some hown8 (by simp); have hb8 := (h2.alloc _).grown hgrow8 (fun h => hne h.symm); have k1 := hb8.cell 1; have k0 := hb8.cell 0; have q1 := hb8.frozen 1; have q0 := hb8.frozen 0; simp at k0 k1; clear hc0 hc1 hc2))
        go_ret
        exact ⟨rfl, ⟨_, step_end h1 HN.out hb8 hown8⟩, HFH.out _ _ _ _ hgrow8⟩
      · clear hn hl
        have h2 : Blk (w.setCell ⟨g, 2, none⟩ (.bool false)) g 45 [(.slice (some ⟨gr, 0, none⟩) l.length cp), .int .i64 n, .bool false] := h2.set 2 (.bool false)
        have h3 := h3.set 2 (.bool false) hne
        have hB2 : base ≤ (w.setCell ⟨g, 2, none⟩ (.bool false)).heap.size := by simpa [World.setCell] using hB
        have HS : Hd ((w.setCell ⟨g, 2, none⟩ (.bool false)).heap.size = w.heap.size) := ⟨by simp [World.setCell]⟩
        have d0 := h2.cell 0
        have d1 := h2.cell 1
        simp at d0 d1
        go_enter Try.func13, Try.ntmps13
        go_wp2_with (first
          | (go_at_call 28; refine (index_calls _ _ _).mono ?_; rintro e w' ⟨rfl, rfl⟩)
          | (at_builtin; refine app_byte rfl (.tmp 54) (.tmp 56) 36 rfl base 5 i0 Try.underlying36 hi hz0 hz1 hz2 (.slice (some ⟨gr, 0, none⟩) l.length cp) l rfl h3 48 _ rfl (by rw [HS.out]; rfl) (by have := HL.out; omega) hB2 ?_; intro v8 w8 hown8 hgrow8; obtain ⟨g8, m8, c8, rfl⟩ := own_some hown8 (by simp); have hb8 := (h2.alloc _).grown hgrow8 (fun h => hne h.symm); have k1 := hb8.cell 1; have k0 := hb8.cell 0; have q1 := hb8.frozen 1; have q0 := hb8.frozen 0; simp at k0 k1; clear hc0 hc1 hc2))
        go_ret
        exact ⟨rfl, ⟨_, step_end h1 HN.out hb8 hown8⟩, HFH.out _ _ _ _ hgrow8⟩
  · cases t
    · rw [hlow] at hx
      have hx2 : decide (0 ≤ Go.Lib.indexByte s.data.toList 48) = true := hx
      have hbit : bitC s false = 48 := bit_val s _ _ hlow
      rw [hbit]
      clear hx hlow hbit
      rcases hlen with ⟨rfl, hz⟩ | ⟨gr, cp, rfl, hcp⟩
      · clear hn hl
        go_enter Try.func13, Try.ntmps13
        go_wp2_with (first
          | (go_at_call 28; refine (index_calls _ _ _).mono ?_; rintro e w' ⟨rfl, rfl⟩)
          | (at_builtin; refine app_byte rfl (.tmp 54) (.tmp 56) 36 rfl base 5 i0 Try.underlying36 hi hz0 hz1 hz2 (.slice none 0 0) l rfl h3 48 _ rfl rfl (by have := HL.out; omega) hB ?_; intro v8 w8 hown8 hgrow8; obtain ⟨g8, m8, c8, rfl⟩ := own_some hown8 (by simp); have hb8 := (h2.alloc _).grown hgrow8 (fun h => hne h.symm); have k1 := hb8.cell 1; have k0 := hb8.cell 0; have q1 := hb8.frozen 1; have q0 := hb8.frozen 0; simp at k0 k1; clear hc0 hc1 hc2))
        go_ret
        exact ⟨rfl, ⟨_, step_end h1 HN.out hb8 hown8⟩, HFH.out _ _ _ _ hgrow8⟩
      · clear hn hl
        go_enter Try.func13, Try.ntmps13
        go_wp2_with (first
          | (go_at_call 28; refine (index_calls _ _ _).mono ?_; rintro e w' ⟨rfl, rfl⟩)
          | (at_builtin; refine app_byte rfl (.tmp 54) (.tmp 56) 36 rfl base 5 i0 Try.underlying36 hi hz0 hz1 hz2 (.slice (some ⟨gr, 0, none⟩) l.length cp) l rfl h3 48 _ rfl rfl (by have := HL.out; omega) hB ?_; intro v8 w8 hown8 hgrow8; obtain ⟨g8, m8, c8, rfl⟩ := own_some hown8 (by simp); have hb8 := (h2.alloc _).grown hgrow8 (fun h => hne h.symm); have k1 := hb8.cell 1; have k0 := hb8.cell 0; have q1 := hb8.frozen 1; have q0 := hb8.frozen 0; simp at k0 k1; clear hc0 hc1 hc2))
        go_ret
        exact ⟨rfl, ⟨_, step_end h1 HN.out hb8 hown8⟩, HFH.out _ _ _ _ hgrow8⟩
    · rw [hlow] at hx
      have hx2 : decide (0 ≤ Go.Lib.indexByte s.data.toList 48) = true := hx
      have hbit : bitC s true = 49 := bit_val s _ _ hlow
      rw [hbit]
      clear hx hlow hbit
      rcases hlen with ⟨rfl, hz⟩ | ⟨gr, cp, rfl, hcp⟩
      · clear hn hl
        have h2 : Blk (w.setCell ⟨g, 2, none⟩ (.bool false)) g 45 [(.slice none 0 0), .int .i64 n, .bool false] := h2.set 2 (.bool false)
        have h3 := h3.set 2 (.bool false) hne
        have hB2 : base ≤ (w.setCell ⟨g, 2, none⟩ (.bool false)).heap.size := by simpa [World.setCell] using hB
        have HS : Hd ((w.setCell ⟨g, 2, none⟩ (.bool false)).heap.size = w.heap.size) := ⟨by simp [World.setCell]⟩
        have d0 := h2.cell 0
        have d1 := h2.cell 1
        simp at d0 d1
        go_enter Try.func13, Try.ntmps13
        go_wp2_with (first
          | (go_at_call 28; refine (index_calls _ _ _).mono ?_; rintro e w' ⟨rfl, rfl⟩)
          | (at_builtin; refine app_byte rfl (.tmp 54) (.tmp 56) 36 rfl base 5 i0 Try.underlying36 hi hz0 hz1 hz2 (.slice none 0 0) l rfl h3 49 _ rfl (by rw [HS.out]; rfl) (by have := HL.out; omega) hB2 ?_; intro v8 w8 hown8 hgrow8; obtain ⟨g8, m8, c8, rfl⟩ := own_some hown8 (by simp); have hb8 := (h2.alloc _).grown hgrow8 (fun h => hne h.symm); have k1 := hb8.cell 1; have k0 := hb8.cell 0; have q1 := hb8.frozen 1; have q0 := hb8.frozen 0; simp at k0 k1; clear hc0 hc1 hc2))
        go_ret
        exact ⟨rfl, ⟨_, step_end h1 HN.out hb8 hown8⟩, HFH.out _ _ _ _ hgrow8⟩
      · clear hn hl
        have h2 : Blk (w.setCell ⟨g, 2, none⟩ (.bool false)) g 45 [(.slice (some ⟨gr, 0, none⟩) l.length cp), .int .i64 n, .bool false] := h2.set 2 (.bool false)
        have h3 := h3.set 2 (.bool false) hne
        have hB2 : base ≤ (w.setCell ⟨g, 2, none⟩ (.bool false)).heap.size := by simpa [World.setCell] using hB
        have HS : Hd ((w.setCell ⟨g, 2, none⟩ (.bool false)).heap.size = w.heap.size) := ⟨by simp [World.setCell]⟩
        have d0 := h2.cell 0
        have d1 := h2.cell 1
        simp at d0 d1
        go_enter Try.func13, Try.ntmps13
        go_wp2_with (first
          | (go_at_call 28; refine (index_calls _ _ _).mono ?_; rintro e w' ⟨rfl, rfl⟩)
          | (at_builtin; refine app_byte rfl (.tmp 54) (.tmp 56) 36 rfl base 5 i0 Try.underlying36 hi hz0 hz1 hz2 (.slice (some ⟨gr, 0, none⟩) l.length cp) l rfl h3 49 _ rfl (by rw [HS.out]; rfl) (by have := HL.out; omega) hB2 ?_; intro v8 w8 hown8 hgrow8; obtain ⟨g8, m8, c8, rfl⟩ := own_some hown8 (by simp); have hb8 := (h2.alloc _).grown hgrow8 (fun h => hne h.symm); have k1 := hb8.cell 1; have k0 := hb8.cell 0; have q1 := hb8.frozen 1; have q0 := hb8.frozen 0; simp at k0 k1; clear hc0 hc1 hc2))
        go_ret
        exact ⟨rfl, ⟨_, step_end h1 HN.out hb8 hown8⟩, HFH.out _ _ _ _ hgrow8⟩
end Go.Proofs.Ytlfeidakmhniaaa.BusW
