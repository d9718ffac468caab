/- The walks of package bus, continued: a bit more where the row is cut first. -/
import Derived.Test.YtlfeidakmhniaaaBusWalksG
namespace Go.Proofs.Ytlfeidakmhniaaa.BusW
set_option linter.unusedVariables false
set_option linter.unusedSimpArgs false
open Go Go.RowKit Go.Proofs.Ytlfeidakmhniaaa.Lib Go.Proofs.YtlfeidakmhniaaaW.PrintMore
attribute [local go_sem] max2_int min2_int max_two min_two

/-- 'copy(b, b[m:])' of a row of the call's own: its beginning is what stood at m. -/
theorem copy_down {P : Program} {w : World} (dT ty elem : TypeId) (hu : P.underlying dT = some (.slice elem)) (hs : (P.info? elem).map (·.size) = some 1) (base gr cp m : Nat) (l : List UInt8)
    (hown : OwnB w base elem (.slice (some ⟨gr, 0, none⟩) l.length cp) l) (hm : m ≤ l.length) :
    ∃ xs, (Builtin.copy_ #[dT, dT] ty #[.slice (some ⟨gr, 0, none⟩) l.length cp, .slice (some ⟨gr, m, none⟩) (l.length - m) (cp - m)]).run P w = .ok (.int .i64 ((l.length - m : Nat) : Int)) (w.setRow gr xs) ∧
      OwnB (w.setRow gr xs) base elem (.slice (some ⟨gr, 0, none⟩) (l.length - m) cp) (l.drop m) := by
  rcases hown.2 with ⟨h1, _⟩ | ⟨g', cap, cur, h1, hb, hg, hle, hmx, hsz, hcur⟩
  · simp at h1
  · simp only [Value.slice.injEq, Option.some.injEq, Addr.mk.injEq, and_true, true_and] at h1
    obtain ⟨rfl, rfl⟩ := h1
    have hlen : (byteVs (l.drop m)).length = l.length - m := by rw [byteVs_length, List.length_drop]
    have hrun := run_copy_row (P := P) w dT dT ty elem gr 0 l.length cp ⟨gr, m, none⟩ (l.length - m) (cp - m) cur elem (byteVs (l.drop m)) hu hs hg (by rw [hlen]; exact (Nat.min_eq_left (Nat.sub_le _ _)).symm)
      (fun j u hj => by
        have hjl : j < l.length - m := by have := (List.getElem?_eq_some_iff.1 hj).1; omega
        have ha : (⟨gr, m, none⟩ : Addr).add j = (⟨gr, 0, none⟩ : Addr).add (m + j) := by
          unfold Addr.add
          by_cases h0 : j = 0
          · subst h0; by_cases hm0 : m = 0 <;> simp [hm0]
          · simp [h0]
        rw [ha]
        refine World.ownsRow.cells (g := gr) hown rfl (m + j) u ?_
        rw [← hj]
        simp [byteVs])
      (by rw [hlen]; omega) (fun u hu => by
        simp only [byteVs, List.mem_map] at hu
        obtain ⟨x, _, rfl⟩ := hu
        rfl)
    refine ⟨(cur.toList.take 0 ++ byteVs (l.drop m) ++ cur.toList.drop (0 + (byteVs (l.drop m)).length)).toArray, hrun.trans ?_, ?_⟩
    · rw [hlen]; rfl
    · have hset := setRow_heap w gr cur (cur.toList.take 0 ++ byteVs (l.drop m) ++ cur.toList.drop (0 + (byteVs (l.drop m)).length)).toArray elem (0, 0) hg
      have e2 : (l.drop m).length = l.length - m := List.length_drop
      refine ⟨by simp [byteVs_length], .inr ⟨gr, cp, _, by rw [e2], hb, hset, by rw [e2]; omega, hmx, ?_, ?_⟩⟩
      · simp [byteVs_length]
        omega
      · rw [List.length_drop]
        simp only [List.take_zero, List.nil_append]
        rw [List.take_append_of_le_length (by rw [hlen]; omega), List.take_of_length_le (by rw [hlen]; omega)]

/-- The row, cut, with one bit more. -/
def cutOf (l : List UInt8) : List UInt8 := l.drop (l.length - 4000)
theorem kept2_cut {w w8 : World} {g gr : Nat} {n cp : Nat} {xs : Array Value} {x : Value} (t : Bool) (u u0 u1 : Value) (h : (((((if t then w.setCell ⟨g, 2, none⟩ (.bool false) else w).drew).setRow gr xs).setCell ⟨g, 0, none⟩ u).alloc (.cells #[x] 5)).grownBy w8 (some gr)) :
    Kept2 w ((w8.setCell ⟨g, 0, none⟩ u0).setCell ⟨g, 1, none⟩ u1) g (some gr) := by
  have hw : ((((if t then w.setCell ⟨g, 2, none⟩ (.bool false) else w).drew).setRow gr xs).setCell ⟨g, 0, none⟩ u).heap.size = w.heap.size := by cases t <;> simp [World.setCell, World.setRow]
  refine ⟨?_, ?_, ?_, ?_, ?_⟩
  · have := h.os; cases t <;> exact this
  · have := h.tape; cases t <;> exact this
  · have := h.output; cases t <;> exact this
  · have := h.size
    simp [World.setCell] at this hw ⊢
    omega
  · intro k hk hg hr
    have e1 : ((w8.setCell ⟨g, 0, none⟩ u0).setCell ⟨g, 1, none⟩ u1).heap[k]? = w8.heap[k]? :=
      (Below.heap_setCell _ ⟨g, 1, none⟩ u1 k hg).trans (Below.heap_setCell _ ⟨g, 0, none⟩ u0 k hg)
    have hkr : k ≠ gr := fun e => hr (by rw [e])
    rw [e1, h.block k (by show k < (Array.push _ _).size; rw [Array.size_push, hw]; omega) hr, Below.heap_alloc _ _ k (by omega)]
    refine (Below.heap_setCell _ ⟨g, 0, none⟩ u k hg).trans ((setRow_other _ gr k xs hkr).trans ?_)
    cases t
    · rfl
    · exact Below.heap_setCell _ ⟨g, 2, none⟩ _ k hg
/-- What the region that cuts the row keeps. -/
structure CutInv (W1 : World) (base g gr cp : Nat) (l : List UInt8) (n : Int) (b : Nat → Bool) (W : World) : Prop where
  cell : ∃ x, Blk W g 45 [x, .int .i64 n, .bool false] ∧ (b 24 = false → x = .slice (some ⟨gr, 0, none⟩) l.length cp) ∧ (b 24 = true → x = .slice (some ⟨gr, 0, none⟩) 4000 cp)
  fst : b 20 = false → W = W1.drew
  snd : b 20 = true → b 24 = false → ∃ xs, W = (W1.drew).setRow gr xs ∧ OwnB W base 5 (.slice (some ⟨gr, 0, none⟩) 4000 cp) (cutOf l)
  thd : b 24 = true → ∃ xs, W = ((W1.drew).setRow gr xs).setCell ⟨g, 0, none⟩ (.slice (some ⟨gr, 0, none⟩) 4000 cp) ∧ OwnB ((W1.drew).setRow gr xs) base 5 (.slice (some ⟨gr, 0, none⟩) 4000 cp) (cutOf l)

set_option maxRecDepth 100000 in
set_option maxHeartbeats 3200000 in
theorem step_cut (base g : Nat) (v : Value) (l : List UInt8) (n : Nat) (t : Bool) (s : ByteArray) (w : World) (h : IsBus w base g v l n t) (hl : 8000 ≤ l.length) (hl2 : l.length ≤ 1000000) (hn : n ≤ 1000000) :
    Calls Try.prog 13 #[.pointer (some ⟨g, 0, none⟩), .string s] w fun e w' => e = .returned (.int .u8 ((bitC s t).toNat : Int)) ∧
      (∃ v', IsBus w' base g v' (cutOf l ++ [bitC s t]) ((n + 1 : Nat) : Int) false) ∧ Kept2 w w' g v.ownBlock := by
  obtain ⟨h1, h2, h3⟩ := h
  obtain ⟨i0, hi, hz0, hz1, hz2⟩ := info_parts info_u8
  have hc0 := h2.cell 0
  have hc1 := h2.cell 1
  have hc2 := h2.cell 2
  have hf2 := h2.frozen 2
  simp at hc0 hc1 hc2
  have hne := h3.ne h2 (by decide)
  have hx := index_has s.data.toList 48
  have hlen := own_len h3
  have HN : Hd (n ≤ 1000000) := ⟨hn⟩
  have hl0 : ((8000 : Int) ≤ (l.length : Int)) = True := eq_true (by omega)
  have hll : ((l.length : Int) ≥ 8000) = True := eq_true (by omega)
  have HL : Hd (8000 ≤ l.length ∧ l.length ≤ 1000000) := ⟨⟨hl, hl2⟩⟩
  have hB : base ≤ w.heap.size := Nat.le_trans h1 (Nat.le_of_lt h2.lt)
  rcases hlen with ⟨rfl, hz⟩ | ⟨gr, cp, rfl, hcp⟩
  · omega
  have hgr : gr ≠ g := by simpa [Value.ownBlock] using hne
  clear hn hl hl2
  cases hlow : s.data.toList.contains 48
  · cases t
    · rw [hlow] at hx
      have hx2 : decide (0 ≤ Go.Lib.indexByte s.data.toList 48) = false := hx
      have hbit : bitC s false = 49 := bit_val s _ _ hlow
      rw [hbit]
      clear hx hlow hbit
      have hk2 := h2
      have hk3 := h3
      have HK2 := Hd.mk hk2
      have HK3 := Hd.mk hk3
      have HKC := Hd.mk (fun (xs : Array Value) (x u u0 u1 : Value) (w8 : World) (h : (((((w).drew).setRow gr xs).setCell ⟨g, 0, none⟩ u).alloc (.cells #[x] 5)).grownBy w8 (some gr)) => kept2_cut (w := w) (n := n) (cp := cp) false u u0 u1 h)
      clear hk2 hk3
      go_enter Try.func13, Try.ntmps13
      go_wp2_with (go_at_call 28; refine (index_calls _ _ _).mono ?_; rintro e w' ⟨rfl, hww⟩; have hww := hww.symm; subst hww)
      have e1 : IntKind.i64.wrap ((l.length : Int) - 4000) = (l.length : Int) - 4000 := by rw [IntKind.wrap_i64]; have := HL.out; omega
      refine region_text (by kernel_rfl) (by kernel_rfl) (fun b _ W => CutInv w base g gr cp l n b W) ⟨⟨_, HK2.out.drew, fun _ => rfl, fun h => by simp at h⟩, fun _ => rfl, fun h => by simp at h, fun h => by simp at h⟩ ?_
      refine t_pure (.pointer (some ⟨g, 0, none⟩)) (fun _ => rfl) (fun b γ W h => ⟨h.cell, h.fst, h.snd, h.thd⟩) (fun b γ W h _ => by go_simp) ?_
      refine t_pure (.pointer (some ⟨g, 0, none⟩)) (fun _ => rfl) (fun b γ W h => ⟨h.cell, h.fst, h.snd, h.thd⟩) (fun b γ W h _ => by go_simp) ?_
      refine t_pure (.pointer (some ⟨g, 0, none⟩)) (fun _ => rfl) (fun b γ W h => ⟨h.cell, h.fst, h.snd, h.thd⟩) (fun b γ W h _ => by go_simp) ?_
      refine t_pure (.pointer (some ⟨g, 0, none⟩)) (fun _ => rfl) (fun b γ W h => ⟨h.cell, h.fst, h.snd, h.thd⟩) (fun b γ W h _ => by go_simp) ?_
      refine t_run (.slice (some ⟨gr, 0, none⟩) l.length cp) (fun _ => rfl) (fun b γ W h hb _ hf => ⟨W, ?_, ⟨h.cell, h.fst, h.snd, h.thd⟩⟩) ?_
      · have hb24 : b 24 = false := hf 24 _ rfl (by decide)
        obtain ⟨x, hx1, hx2, hx3⟩ := h.cell
        obtain rfl := hx2 hb24
        have x0 := hx1.cell 0
        simp at x0
        go_simp
      refine t_pure (.pointer (some ⟨g, 0, none⟩)) (fun _ => rfl) (fun b γ W h => ⟨h.cell, h.fst, h.snd, h.thd⟩) (fun b γ W h _ => by go_simp) ?_
      refine t_pure (.pointer (some ⟨g, 0, none⟩)) (fun _ => rfl) (fun b γ W h => ⟨h.cell, h.fst, h.snd, h.thd⟩) (fun b γ W h _ => by go_simp) ?_
      refine t_pure (.pointer (some ⟨g, 0, none⟩)) (fun _ => rfl) (fun b γ W h => ⟨h.cell, h.fst, h.snd, h.thd⟩) (fun b γ W h _ => by go_simp) ?_
      refine t_run (.slice (some ⟨gr, 0, none⟩) l.length cp) (fun _ => rfl) (fun b γ W h hb _ hf => ⟨W, ?_, ⟨h.cell, h.fst, h.snd, h.thd⟩⟩) ?_
      · have hb24 : b 24 = false := hf 24 _ rfl (by decide)
        obtain ⟨x, hx1, hx2, hx3⟩ := h.cell
        obtain rfl := hx2 hb24
        have x0 := hx1.cell 0
        simp at x0
        go_simp
      refine t_pure (.pointer (some ⟨g, 0, none⟩)) (fun _ => rfl) (fun b γ W h => ⟨h.cell, h.fst, h.snd, h.thd⟩) (fun b γ W h _ => by go_simp) ?_
      refine t_pure (.pointer (some ⟨g, 0, none⟩)) (fun _ => rfl) (fun b γ W h => ⟨h.cell, h.fst, h.snd, h.thd⟩) (fun b γ W h _ => by go_simp) ?_
      refine t_pure (.pointer (some ⟨g, 0, none⟩)) (fun _ => rfl) (fun b γ W h => ⟨h.cell, h.fst, h.snd, h.thd⟩) (fun b γ W h _ => by go_simp) ?_
      refine t_run (.slice (some ⟨gr, 0, none⟩) l.length cp) (fun _ => rfl) (fun b γ W h hb _ hf => ⟨W, ?_, ⟨h.cell, h.fst, h.snd, h.thd⟩⟩) ?_
      · have hb24 : b 24 = false := hf 24 _ rfl (by decide)
        obtain ⟨x, hx1, hx2, hx3⟩ := h.cell
        obtain rfl := hx2 hb24
        have x0 := hx1.cell 0
        simp at x0
        go_simp
      refine t_pure (.pointer (some ⟨g, 0, none⟩)) (fun _ => rfl) (fun b γ W h => ⟨h.cell, h.fst, h.snd, h.thd⟩) (fun b γ W h _ => by go_simp) ?_
      refine t_pure (.pointer (some ⟨g, 0, none⟩)) (fun _ => rfl) (fun b γ W h => ⟨h.cell, h.fst, h.snd, h.thd⟩) (fun b γ W h _ => by go_simp) ?_
      refine t_pure (.pointer (some ⟨g, 0, none⟩)) (fun _ => rfl) (fun b γ W h => ⟨h.cell, h.fst, h.snd, h.thd⟩) (fun b γ W h _ => by go_simp) ?_
      refine t_run (.slice (some ⟨gr, 0, none⟩) l.length cp) (fun _ => rfl) (fun b γ W h hb _ hf => ⟨W, ?_, ⟨h.cell, h.fst, h.snd, h.thd⟩⟩) ?_
      · have hb24 : b 24 = false := hf 24 _ rfl (by decide)
        obtain ⟨x, hx1, hx2, hx3⟩ := h.cell
        obtain rfl := hx2 hb24
        have x0 := hx1.cell 0
        simp at x0
        go_simp
      refine t_pure (.int .i64 l.length) (fun _ => rfl) (fun b γ W h => ⟨h.cell, h.fst, h.snd, h.thd⟩) (fun b γ W h _ => by go_simp) ?_
      refine t_pure (.int .i64 ((l.length : Int) - 4000)) (fun _ => rfl) (fun b γ W h => ⟨h.cell, h.fst, h.snd, h.thd⟩) (fun b γ W h _ => by go_simp) ?_
      refine t_pure (.slice (some ⟨gr, l.length - 4000, none⟩) 4000 (cp - (l.length - 4000))) (fun _ => rfl) (fun b γ W h => ⟨h.cell, h.fst, h.snd, h.thd⟩) (fun b γ W h _ => ?_) ?_
      · have q1 := HL.out
        have q2 : (0 : Int) ≤ (l.length : Int) - 4000 := by omega
        have q3 : (l.length : Int) - 4000 ≤ l.length := by omega
        have q4 : ((l.length : Int) - 4000).toNat = l.length - 4000 := by omega
        have q5 : l.length - (l.length - 4000) = 4000 := by omega
        have q6 : (cp = l.length - 4000) = False := eq_false (by omega)
        have q7 : ((l.length : Int) < 4000) = False := eq_false (by omega)
        go_simp
      refine t_run (.int .i64 4000) (fun _ => rfl) (fun b γ W h hb hn hf => ?_) ?_
      · have hb24 : b 24 = false := hf 24 _ rfl (by decide)
        have q1 := HL.out
        obtain rfl := h.fst hb
        obtain ⟨x, hx1, hx2, hx3⟩ := h.cell
        obtain rfl := hx2 hb24
        obtain ⟨xs, y1, y2⟩ := copy_down (P := Try.prog) (w := (w).drew) 36 3 5 Try.underlying36 (by rw [hi, Option.map_some, hz1]) base gr cp (l.length - 4000) l (HK3.out.kept (row := none) (by exact grown_drew (grown_refl _ _)) (.inr (by simp [Value.ownBlock]))) (by omega)
        have e4 : l.length - (l.length - 4000) = 4000 := by omega
        rw [e4] at y1 y2
        refine ⟨(w).drew.setRow gr xs, by go_simp, ?_⟩
        have hb24' : up b 20 24 = false := by simp [up, hb24]
        exact ⟨⟨_, (setRow_other _ gr g xs hgr.symm).trans hx1, fun _ => rfl, fun h => by rw [hb24'] at h; cases h⟩, fun h => by simp [up] at h, fun _ _ => ⟨xs, rfl, y2⟩, fun h => by rw [hb24'] at h; cases h⟩
      refine t_pure (.slice (some ⟨gr, 0, none⟩) 4000 cp) (fun _ => rfl) (fun b γ W h => ⟨h.cell, h.fst, h.snd, h.thd⟩) (fun b γ W h _ => ?_) ?_
      · have q1 := HL.out
        have q2 : (4000 : Int) ≤ cp := by omega
        go_simp
      refine t_pure (.pointer (some ⟨g, 0, none⟩)) (fun _ => rfl) (fun b γ W h => ⟨h.cell, h.fst, h.snd, h.thd⟩) (fun b γ W h _ => by go_simp) ?_
      refine t_pure (.pointer (some ⟨g, 0, none⟩)) (fun _ => rfl) (fun b γ W h => ⟨h.cell, h.fst, h.snd, h.thd⟩) (fun b γ W h _ => by go_simp) ?_
      refine t_store (fun _ => rfl) (fun b γ W h hb hn hf => ?_) ?_
      · have h20 : b 20 = true := hn 20 (by decide)
        obtain ⟨xs, rfl, y2⟩ := h.snd h20 hb
        obtain ⟨x, hx1, hx2, hx3⟩ := h.cell
        have x0 := hx1.cell 0
        have f0 := hx1.frozen 0
        simp at x0
        refine ⟨((w).drew.setRow gr xs).setCell ⟨g, 0, none⟩ (.slice (some ⟨gr, 0, none⟩) 4000 cp), by go_simp, ⟨_, hx1.set 0 _, fun h => by simp [up] at h, fun _ => rfl⟩, fun h => ?_, fun _ h => by simp [up] at h, fun _ => ⟨xs, rfl, y2⟩⟩
        have : up b 24 20 = true := by simp [up, h20]
        rw [this] at h; cases h
      refine t_end ?_
      intro bq gq w5 hall hS
      obtain ⟨xs, rfl, y2⟩ := hS.thd (hall 24 (by decide))
      obtain ⟨x, hx1, hx2, hx3⟩ := hS.cell
      have z1 := hx3 (hall 24 (by decide))
      subst z1
      clear hS hall hx2 hx3 e1
      have y3 := y2.set 0 (.slice (some ⟨gr, 0, none⟩) 4000 cp) (g := g) (by simpa [Value.ownBlock] using hgr)
      simp only [Act.put, List.setIfInBounds_toArray, List.set_cons_zero, List.set_cons_succ]
      generalize hw5 : ((((w).drew).setRow gr xs).setCell ⟨g, 0, none⟩ (.slice (some ⟨gr, 0, none⟩) 4000 cp)) = w5 at *
      have HW5 := Hd.mk hw5
      clear hw5 hc0 hc1 hc2 hf2
      have z3 : base ≤ w5.heap.size := Nat.le_trans h1 (Nat.le_of_lt hx1.lt)
      have x0 := hx1.cell 0
      have x1 := hx1.cell 1
      simp at x0 x1
      have hcl : (cutOf l).length = 4000 := by have := HL.out; unfold cutOf; rw [List.length_drop]; omega
      have HCL := Hd.mk hcl
      clear hcl
      go_wp2_with (at_builtin; refine app_byte rfl (.tmp 54) (.tmp 56) 36 rfl base 5 i0 Try.underlying36 hi hz0 hz1 hz2 (.slice (some ⟨gr, 0, none⟩) 4000 cp) (cutOf l) rfl y3 49 _ rfl rfl (by rw [HCL.out]; omega) z3 ?_; intro v8 w8 hown8 hgrow8; obtain ⟨g8, m8, c8, rfl⟩ := own_some hown8 (by simp); have hb8 := (hx1.alloc _).grown hgrow8 (by simpa [Value.ownBlock] using hgr.symm); have k1 := hb8.cell 1; have k0 := hb8.cell 0; have q1 := hb8.frozen 1; have q0 := hb8.frozen 0; simp at k0 k1; clear x0 x1)
      go_ret
      exact ⟨rfl, ⟨_, step_end h1 HN.out hb8 hown8⟩, HKC.out xs _ _ _ _ _ (by rw [HW5.out]; exact hgrow8)⟩
    · rw [hlow] at hx
      have hx2 : decide (0 ≤ Go.Lib.indexByte s.data.toList 48) = false := hx
      have hbit : bitC s true = 48 := bit_val s _ _ hlow
      rw [hbit]
      clear hx hlow hbit
      have hk2 : Blk (w.setCell ⟨g, 2, none⟩ (.bool false)) g 45 [.slice (some ⟨gr, 0, none⟩) l.length cp, .int .i64 n, .bool false] := h2.set 2 (.bool false)
      have hk3 := h3.set 2 (.bool false) hne
      have d0 := hk2.cell 0
      have d1 := hk2.cell 1
      simp at d0 d1
      have HK2 := Hd.mk hk2
      have HK3 := Hd.mk hk3
      have HKC := Hd.mk (fun (xs : Array Value) (x u u0 u1 : Value) (w8 : World) (h : ((((((w.setCell ⟨g, 2, none⟩ (.bool false))).drew).setRow gr xs).setCell ⟨g, 0, none⟩ u).alloc (.cells #[x] 5)).grownBy w8 (some gr)) => kept2_cut (w := w) (n := n) (cp := cp) true u u0 u1 h)
      clear hk2 hk3
      go_enter Try.func13, Try.ntmps13
      go_wp2_with (go_at_call 28; refine (index_calls _ _ _).mono ?_; rintro e w' ⟨rfl, hww⟩; have hww := hww.symm; subst hww)
      have e1 : IntKind.i64.wrap ((l.length : Int) - 4000) = (l.length : Int) - 4000 := by rw [IntKind.wrap_i64]; have := HL.out; omega
      refine region_text (by kernel_rfl) (by kernel_rfl) (fun b _ W => CutInv (w.setCell ⟨g, 2, none⟩ (.bool false)) base g gr cp l n b W) ⟨⟨_, HK2.out.drew, fun _ => rfl, fun h => by simp at h⟩, fun _ => rfl, fun h => by simp at h, fun h => by simp at h⟩ ?_
      refine t_pure (.pointer (some ⟨g, 0, none⟩)) (fun _ => rfl) (fun b γ W h => ⟨h.cell, h.fst, h.snd, h.thd⟩) (fun b γ W h _ => by go_simp) ?_
      refine t_pure (.pointer (some ⟨g, 0, none⟩)) (fun _ => rfl) (fun b γ W h => ⟨h.cell, h.fst, h.snd, h.thd⟩) (fun b γ W h _ => by go_simp) ?_
      refine t_pure (.pointer (some ⟨g, 0, none⟩)) (fun _ => rfl) (fun b γ W h => ⟨h.cell, h.fst, h.snd, h.thd⟩) (fun b γ W h _ => by go_simp) ?_
      refine t_pure (.pointer (some ⟨g, 0, none⟩)) (fun _ => rfl) (fun b γ W h => ⟨h.cell, h.fst, h.snd, h.thd⟩) (fun b γ W h _ => by go_simp) ?_
      refine t_run (.slice (some ⟨gr, 0, none⟩) l.length cp) (fun _ => rfl) (fun b γ W h hb _ hf => ⟨W, ?_, ⟨h.cell, h.fst, h.snd, h.thd⟩⟩) ?_
      · have hb24 : b 24 = false := hf 24 _ rfl (by decide)
        obtain ⟨x, hx1, hx2, hx3⟩ := h.cell
        obtain rfl := hx2 hb24
        have x0 := hx1.cell 0
        simp at x0
        go_simp
      refine t_pure (.pointer (some ⟨g, 0, none⟩)) (fun _ => rfl) (fun b γ W h => ⟨h.cell, h.fst, h.snd, h.thd⟩) (fun b γ W h _ => by go_simp) ?_
      refine t_pure (.pointer (some ⟨g, 0, none⟩)) (fun _ => rfl) (fun b γ W h => ⟨h.cell, h.fst, h.snd, h.thd⟩) (fun b γ W h _ => by go_simp) ?_
      refine t_pure (.pointer (some ⟨g, 0, none⟩)) (fun _ => rfl) (fun b γ W h => ⟨h.cell, h.fst, h.snd, h.thd⟩) (fun b γ W h _ => by go_simp) ?_
      refine t_run (.slice (some ⟨gr, 0, none⟩) l.length cp) (fun _ => rfl) (fun b γ W h hb _ hf => ⟨W, ?_, ⟨h.cell, h.fst, h.snd, h.thd⟩⟩) ?_
      · have hb24 : b 24 = false := hf 24 _ rfl (by decide)
        obtain ⟨x, hx1, hx2, hx3⟩ := h.cell
        obtain rfl := hx2 hb24
        have x0 := hx1.cell 0
        simp at x0
        go_simp
      refine t_pure (.pointer (some ⟨g, 0, none⟩)) (fun _ => rfl) (fun b γ W h => ⟨h.cell, h.fst, h.snd, h.thd⟩) (fun b γ W h _ => by go_simp) ?_
      refine t_pure (.pointer (some ⟨g, 0, none⟩)) (fun _ => rfl) (fun b γ W h => ⟨h.cell, h.fst, h.snd, h.thd⟩) (fun b γ W h _ => by go_simp) ?_
      refine t_pure (.pointer (some ⟨g, 0, none⟩)) (fun _ => rfl) (fun b γ W h => ⟨h.cell, h.fst, h.snd, h.thd⟩) (fun b γ W h _ => by go_simp) ?_
      refine t_run (.slice (some ⟨gr, 0, none⟩) l.length cp) (fun _ => rfl) (fun b γ W h hb _ hf => ⟨W, ?_, ⟨h.cell, h.fst, h.snd, h.thd⟩⟩) ?_
      · have hb24 : b 24 = false := hf 24 _ rfl (by decide)
        obtain ⟨x, hx1, hx2, hx3⟩ := h.cell
        obtain rfl := hx2 hb24
        have x0 := hx1.cell 0
        simp at x0
        go_simp
      refine t_pure (.pointer (some ⟨g, 0, none⟩)) (fun _ => rfl) (fun b γ W h => ⟨h.cell, h.fst, h.snd, h.thd⟩) (fun b γ W h _ => by go_simp) ?_
      refine t_pure (.pointer (some ⟨g, 0, none⟩)) (fun _ => rfl) (fun b γ W h => ⟨h.cell, h.fst, h.snd, h.thd⟩) (fun b γ W h _ => by go_simp) ?_
      refine t_pure (.pointer (some ⟨g, 0, none⟩)) (fun _ => rfl) (fun b γ W h => ⟨h.cell, h.fst, h.snd, h.thd⟩) (fun b γ W h _ => by go_simp) ?_
      refine t_run (.slice (some ⟨gr, 0, none⟩) l.length cp) (fun _ => rfl) (fun b γ W h hb _ hf => ⟨W, ?_, ⟨h.cell, h.fst, h.snd, h.thd⟩⟩) ?_
      · have hb24 : b 24 = false := hf 24 _ rfl (by decide)
        obtain ⟨x, hx1, hx2, hx3⟩ := h.cell
        obtain rfl := hx2 hb24
        have x0 := hx1.cell 0
        simp at x0
        go_simp
      refine t_pure (.int .i64 l.length) (fun _ => rfl) (fun b γ W h => ⟨h.cell, h.fst, h.snd, h.thd⟩) (fun b γ W h _ => by go_simp) ?_
      refine t_pure (.int .i64 ((l.length : Int) - 4000)) (fun _ => rfl) (fun b γ W h => ⟨h.cell, h.fst, h.snd, h.thd⟩) (fun b γ W h _ => by go_simp) ?_
      refine t_pure (.slice (some ⟨gr, l.length - 4000, none⟩) 4000 (cp - (l.length - 4000))) (fun _ => rfl) (fun b γ W h => ⟨h.cell, h.fst, h.snd, h.thd⟩) (fun b γ W h _ => ?_) ?_
      · have q1 := HL.out
        have q2 : (0 : Int) ≤ (l.length : Int) - 4000 := by omega
        have q3 : (l.length : Int) - 4000 ≤ l.length := by omega
        have q4 : ((l.length : Int) - 4000).toNat = l.length - 4000 := by omega
        have q5 : l.length - (l.length - 4000) = 4000 := by omega
        have q6 : (cp = l.length - 4000) = False := eq_false (by omega)
        have q7 : ((l.length : Int) < 4000) = False := eq_false (by omega)
        go_simp
      refine t_run (.int .i64 4000) (fun _ => rfl) (fun b γ W h hb hn hf => ?_) ?_
      · have hb24 : b 24 = false := hf 24 _ rfl (by decide)
        have q1 := HL.out
        obtain rfl := h.fst hb
        obtain ⟨x, hx1, hx2, hx3⟩ := h.cell
        obtain rfl := hx2 hb24
        obtain ⟨xs, y1, y2⟩ := copy_down (P := Try.prog) (w := ((w.setCell ⟨g, 2, none⟩ (.bool false))).drew) 36 3 5 Try.underlying36 (by rw [hi, Option.map_some, hz1]) base gr cp (l.length - 4000) l (HK3.out.kept (row := none) (by exact grown_drew (grown_refl _ _)) (.inr (by simp [Value.ownBlock]))) (by omega)
        have e4 : l.length - (l.length - 4000) = 4000 := by omega
        rw [e4] at y1 y2
        refine ⟨((w.setCell ⟨g, 2, none⟩ (.bool false))).drew.setRow gr xs, by go_simp, ?_⟩
        have hb24' : up b 20 24 = false := by simp [up, hb24]
        exact ⟨⟨_, (setRow_other _ gr g xs hgr.symm).trans hx1, fun _ => rfl, fun h => by rw [hb24'] at h; cases h⟩, fun h => by simp [up] at h, fun _ _ => ⟨xs, rfl, y2⟩, fun h => by rw [hb24'] at h; cases h⟩
      refine t_pure (.slice (some ⟨gr, 0, none⟩) 4000 cp) (fun _ => rfl) (fun b γ W h => ⟨h.cell, h.fst, h.snd, h.thd⟩) (fun b γ W h _ => ?_) ?_
      · have q1 := HL.out
        have q2 : (4000 : Int) ≤ cp := by omega
        go_simp
      refine t_pure (.pointer (some ⟨g, 0, none⟩)) (fun _ => rfl) (fun b γ W h => ⟨h.cell, h.fst, h.snd, h.thd⟩) (fun b γ W h _ => by go_simp) ?_
      refine t_pure (.pointer (some ⟨g, 0, none⟩)) (fun _ => rfl) (fun b γ W h => ⟨h.cell, h.fst, h.snd, h.thd⟩) (fun b γ W h _ => by go_simp) ?_
      refine t_store (fun _ => rfl) (fun b γ W h hb hn hf => ?_) ?_
      · have h20 : b 20 = true := hn 20 (by decide)
        obtain ⟨xs, rfl, y2⟩ := h.snd h20 hb
        obtain ⟨x, hx1, hx2, hx3⟩ := h.cell
        have x0 := hx1.cell 0
        have f0 := hx1.frozen 0
        simp at x0
        refine ⟨(((w.setCell ⟨g, 2, none⟩ (.bool false))).drew.setRow gr xs).setCell ⟨g, 0, none⟩ (.slice (some ⟨gr, 0, none⟩) 4000 cp), by go_simp, ⟨_, hx1.set 0 _, fun h => by simp [up] at h, fun _ => rfl⟩, fun h => ?_, fun _ h => by simp [up] at h, fun _ => ⟨xs, rfl, y2⟩⟩
        have : up b 24 20 = true := by simp [up, h20]
        rw [this] at h; cases h
      refine t_end ?_
      intro bq gq w5 hall hS
      obtain ⟨xs, rfl, y2⟩ := hS.thd (hall 24 (by decide))
      obtain ⟨x, hx1, hx2, hx3⟩ := hS.cell
      have z1 := hx3 (hall 24 (by decide))
      subst z1
      clear hS hall hx2 hx3 e1
      have y3 := y2.set 0 (.slice (some ⟨gr, 0, none⟩) 4000 cp) (g := g) (by simpa [Value.ownBlock] using hgr)
      simp only [Act.put, List.setIfInBounds_toArray, List.set_cons_zero, List.set_cons_succ]
      generalize hw5 : (((((w.setCell ⟨g, 2, none⟩ (.bool false))).drew).setRow gr xs).setCell ⟨g, 0, none⟩ (.slice (some ⟨gr, 0, none⟩) 4000 cp)) = w5 at *
      have HW5 := Hd.mk hw5
      clear hw5 hc0 hc1 hc2 hf2
      have z3 : base ≤ w5.heap.size := Nat.le_trans h1 (Nat.le_of_lt hx1.lt)
      have x0 := hx1.cell 0
      have x1 := hx1.cell 1
      simp at x0 x1
      have hcl : (cutOf l).length = 4000 := by have := HL.out; unfold cutOf; rw [List.length_drop]; omega
      have HCL := Hd.mk hcl
      clear hcl
      go_wp2_with (at_builtin; refine app_byte rfl (.tmp 54) (.tmp 56) 36 rfl base 5 i0 Try.underlying36 hi hz0 hz1 hz2 (.slice (some ⟨gr, 0, none⟩) 4000 cp) (cutOf l) rfl y3 48 _ rfl rfl (by rw [HCL.out]; omega) z3 ?_; intro v8 w8 hown8 hgrow8; obtain ⟨g8, m8, c8, rfl⟩ := own_some hown8 (by simp); have hb8 := (hx1.alloc _).grown hgrow8 (by simpa [Value.ownBlock] using hgr.symm); have k1 := hb8.cell 1; have k0 := hb8.cell 0; have q1 := hb8.frozen 1; have q0 := hb8.frozen 0; simp at k0 k1; clear x0 x1)
      go_ret
      exact ⟨rfl, ⟨_, step_end h1 HN.out hb8 hown8⟩, HKC.out xs _ _ _ _ _ (by rw [HW5.out]; exact hgrow8)⟩
  · cases t
    · rw [hlow] at hx
      have hx2 : decide (0 ≤ Go.Lib.indexByte s.data.toList 48) = true := hx
      have hbit : bitC s false = 48 := bit_val s _ _ hlow
      rw [hbit]
      clear hx hlow hbit
      have hk2 := h2
      have hk3 := h3
      have HK2 := Hd.mk hk2
      have HK3 := Hd.mk hk3
      have HKC := Hd.mk (fun (xs : Array Value) (x u u0 u1 : Value) (w8 : World) (h : (((((w).drew).setRow gr xs).setCell ⟨g, 0, none⟩ u).alloc (.cells #[x] 5)).grownBy w8 (some gr)) => kept2_cut (w := w) (n := n) (cp := cp) false u u0 u1 h)
      clear hk2 hk3
      go_enter Try.func13, Try.ntmps13
      go_wp2_with (go_at_call 28; refine (index_calls _ _ _).mono ?_; rintro e w' ⟨rfl, hww⟩; have hww := hww.symm; subst hww)
      have e1 : IntKind.i64.wrap ((l.length : Int) - 4000) = (l.length : Int) - 4000 := by rw [IntKind.wrap_i64]; have := HL.out; omega
      refine region_text (by kernel_rfl) (by kernel_rfl) (fun b _ W => CutInv w base g gr cp l n b W) ⟨⟨_, HK2.out.drew, fun _ => rfl, fun h => by simp at h⟩, fun _ => rfl, fun h => by simp at h, fun h => by simp at h⟩ ?_
      refine t_pure (.pointer (some ⟨g, 0, none⟩)) (fun _ => rfl) (fun b γ W h => ⟨h.cell, h.fst, h.snd, h.thd⟩) (fun b γ W h _ => by go_simp) ?_
      refine t_pure (.pointer (some ⟨g, 0, none⟩)) (fun _ => rfl) (fun b γ W h => ⟨h.cell, h.fst, h.snd, h.thd⟩) (fun b γ W h _ => by go_simp) ?_
      refine t_pure (.pointer (some ⟨g, 0, none⟩)) (fun _ => rfl) (fun b γ W h => ⟨h.cell, h.fst, h.snd, h.thd⟩) (fun b γ W h _ => by go_simp) ?_
      refine t_pure (.pointer (some ⟨g, 0, none⟩)) (fun _ => rfl) (fun b γ W h => ⟨h.cell, h.fst, h.snd, h.thd⟩) (fun b γ W h _ => by go_simp) ?_
      refine t_run (.slice (some ⟨gr, 0, none⟩) l.length cp) (fun _ => rfl) (fun b γ W h hb _ hf => ⟨W, ?_, ⟨h.cell, h.fst, h.snd, h.thd⟩⟩) ?_
      · have hb24 : b 24 = false := hf 24 _ rfl (by decide)
        obtain ⟨x, hx1, hx2, hx3⟩ := h.cell
        obtain rfl := hx2 hb24
        have x0 := hx1.cell 0
        simp at x0
        go_simp
      refine t_pure (.pointer (some ⟨g, 0, none⟩)) (fun _ => rfl) (fun b γ W h => ⟨h.cell, h.fst, h.snd, h.thd⟩) (fun b γ W h _ => by go_simp) ?_
      refine t_pure (.pointer (some ⟨g, 0, none⟩)) (fun _ => rfl) (fun b γ W h => ⟨h.cell, h.fst, h.snd, h.thd⟩) (fun b γ W h _ => by go_simp) ?_
      refine t_pure (.pointer (some ⟨g, 0, none⟩)) (fun _ => rfl) (fun b γ W h => ⟨h.cell, h.fst, h.snd, h.thd⟩) (fun b γ W h _ => by go_simp) ?_
      refine t_run (.slice (some ⟨gr, 0, none⟩) l.length cp) (fun _ => rfl) (fun b γ W h hb _ hf => ⟨W, ?_, ⟨h.cell, h.fst, h.snd, h.thd⟩⟩) ?_
      · have hb24 : b 24 = false := hf 24 _ rfl (by decide)
        obtain ⟨x, hx1, hx2, hx3⟩ := h.cell
        obtain rfl := hx2 hb24
        have x0 := hx1.cell 0
        simp at x0
        go_simp
      refine t_pure (.pointer (some ⟨g, 0, none⟩)) (fun _ => rfl) (fun b γ W h => ⟨h.cell, h.fst, h.snd, h.thd⟩) (fun b γ W h _ => by go_simp) ?_
      refine t_pure (.pointer (some ⟨g, 0, none⟩)) (fun _ => rfl) (fun b γ W h => ⟨h.cell, h.fst, h.snd, h.thd⟩) (fun b γ W h _ => by go_simp) ?_
      refine t_pure (.pointer (some ⟨g, 0, none⟩)) (fun _ => rfl) (fun b γ W h => ⟨h.cell, h.fst, h.snd, h.thd⟩) (fun b γ W h _ => by go_simp) ?_
      refine t_run (.slice (some ⟨gr, 0, none⟩) l.length cp) (fun _ => rfl) (fun b γ W h hb _ hf => ⟨W, ?_, ⟨h.cell, h.fst, h.snd, h.thd⟩⟩) ?_
      · have hb24 : b 24 = false := hf 24 _ rfl (by decide)
        obtain ⟨x, hx1, hx2, hx3⟩ := h.cell
        obtain rfl := hx2 hb24
        have x0 := hx1.cell 0
        simp at x0
        go_simp
      refine t_pure (.pointer (some ⟨g, 0, none⟩)) (fun _ => rfl) (fun b γ W h => ⟨h.cell, h.fst, h.snd, h.thd⟩) (fun b γ W h _ => by go_simp) ?_
      refine t_pure (.pointer (some ⟨g, 0, none⟩)) (fun _ => rfl) (fun b γ W h => ⟨h.cell, h.fst, h.snd, h.thd⟩) (fun b γ W h _ => by go_simp) ?_
      refine t_pure (.pointer (some ⟨g, 0, none⟩)) (fun _ => rfl) (fun b γ W h => ⟨h.cell, h.fst, h.snd, h.thd⟩) (fun b γ W h _ => by go_simp) ?_
      refine t_run (.slice (some ⟨gr, 0, none⟩) l.length cp) (fun _ => rfl) (fun b γ W h hb _ hf => ⟨W, ?_, ⟨h.cell, h.fst, h.snd, h.thd⟩⟩) ?_
      · have hb24 : b 24 = false := hf 24 _ rfl (by decide)
        obtain ⟨x, hx1, hx2, hx3⟩ := h.cell
        obtain rfl := hx2 hb24
        have x0 := hx1.cell 0
        simp at x0
        go_simp
      refine t_pure (.int .i64 l.length) (fun _ => rfl) (fun b γ W h => ⟨h.cell, h.fst, h.snd, h.thd⟩) (fun b γ W h _ => by go_simp) ?_
      refine t_pure (.int .i64 ((l.length : Int) - 4000)) (fun _ => rfl) (fun b γ W h => ⟨h.cell, h.fst, h.snd, h.thd⟩) (fun b γ W h _ => by go_simp) ?_
      refine t_pure (.slice (some ⟨gr, l.length - 4000, none⟩) 4000 (cp - (l.length - 4000))) (fun _ => rfl) (fun b γ W h => ⟨h.cell, h.fst, h.snd, h.thd⟩) (fun b γ W h _ => ?_) ?_
      · have q1 := HL.out
        have q2 : (0 : Int) ≤ (l.length : Int) - 4000 := by omega
        have q3 : (l.length : Int) - 4000 ≤ l.length := by omega
        have q4 : ((l.length : Int) - 4000).toNat = l.length - 4000 := by omega
        have q5 : l.length - (l.length - 4000) = 4000 := by omega
        have q6 : (cp = l.length - 4000) = False := eq_false (by omega)
        have q7 : ((l.length : Int) < 4000) = False := eq_false (by omega)
        go_simp
      refine t_run (.int .i64 4000) (fun _ => rfl) (fun b γ W h hb hn hf => ?_) ?_
      · have hb24 : b 24 = false := hf 24 _ rfl (by decide)
        have q1 := HL.out
        obtain rfl := h.fst hb
        obtain ⟨x, hx1, hx2, hx3⟩ := h.cell
        obtain rfl := hx2 hb24
        obtain ⟨xs, y1, y2⟩ := copy_down (P := Try.prog) (w := (w).drew) 36 3 5 Try.underlying36 (by rw [hi, Option.map_some, hz1]) base gr cp (l.length - 4000) l (HK3.out.kept (row := none) (by exact grown_drew (grown_refl _ _)) (.inr (by simp [Value.ownBlock]))) (by omega)
        have e4 : l.length - (l.length - 4000) = 4000 := by omega
        rw [e4] at y1 y2
        refine ⟨(w).drew.setRow gr xs, by go_simp, ?_⟩
        have hb24' : up b 20 24 = false := by simp [up, hb24]
        exact ⟨⟨_, (setRow_other _ gr g xs hgr.symm).trans hx1, fun _ => rfl, fun h => by rw [hb24'] at h; cases h⟩, fun h => by simp [up] at h, fun _ _ => ⟨xs, rfl, y2⟩, fun h => by rw [hb24'] at h; cases h⟩
      refine t_pure (.slice (some ⟨gr, 0, none⟩) 4000 cp) (fun _ => rfl) (fun b γ W h => ⟨h.cell, h.fst, h.snd, h.thd⟩) (fun b γ W h _ => ?_) ?_
      · have q1 := HL.out
        have q2 : (4000 : Int) ≤ cp := by omega
        go_simp
      refine t_pure (.pointer (some ⟨g, 0, none⟩)) (fun _ => rfl) (fun b γ W h => ⟨h.cell, h.fst, h.snd, h.thd⟩) (fun b γ W h _ => by go_simp) ?_
      refine t_pure (.pointer (some ⟨g, 0, none⟩)) (fun _ => rfl) (fun b γ W h => ⟨h.cell, h.fst, h.snd, h.thd⟩) (fun b γ W h _ => by go_simp) ?_
      refine t_store (fun _ => rfl) (fun b γ W h hb hn hf => ?_) ?_
      · have h20 : b 20 = true := hn 20 (by decide)
        obtain ⟨xs, rfl, y2⟩ := h.snd h20 hb
        obtain ⟨x, hx1, hx2, hx3⟩ := h.cell
        have x0 := hx1.cell 0
        have f0 := hx1.frozen 0
        simp at x0
        refine ⟨((w).drew.setRow gr xs).setCell ⟨g, 0, none⟩ (.slice (some ⟨gr, 0, none⟩) 4000 cp), by go_simp, ⟨_, hx1.set 0 _, fun h => by simp [up] at h, fun _ => rfl⟩, fun h => ?_, fun _ h => by simp [up] at h, fun _ => ⟨xs, rfl, y2⟩⟩
        have : up b 24 20 = true := by simp [up, h20]
        rw [this] at h; cases h
      refine t_end ?_
      intro bq gq w5 hall hS
      obtain ⟨xs, rfl, y2⟩ := hS.thd (hall 24 (by decide))
      obtain ⟨x, hx1, hx2, hx3⟩ := hS.cell
      have z1 := hx3 (hall 24 (by decide))
      subst z1
      clear hS hall hx2 hx3 e1
      have y3 := y2.set 0 (.slice (some ⟨gr, 0, none⟩) 4000 cp) (g := g) (by simpa [Value.ownBlock] using hgr)
      simp only [Act.put, List.setIfInBounds_toArray, List.set_cons_zero, List.set_cons_succ]
      generalize hw5 : ((((w).drew).setRow gr xs).setCell ⟨g, 0, none⟩ (.slice (some ⟨gr, 0, none⟩) 4000 cp)) = w5 at *
      have HW5 := Hd.mk hw5
      clear hw5 hc0 hc1 hc2 hf2
      have z3 : base ≤ w5.heap.size := Nat.le_trans h1 (Nat.le_of_lt hx1.lt)
      have x0 := hx1.cell 0
      have x1 := hx1.cell 1
      simp at x0 x1
      have hcl : (cutOf l).length = 4000 := by have := HL.out; unfold cutOf; rw [List.length_drop]; omega
      have HCL := Hd.mk hcl
      clear hcl
      go_wp2_with (at_builtin; refine app_byte rfl (.tmp 54) (.tmp 56) 36 rfl base 5 i0 Try.underlying36 hi hz0 hz1 hz2 (.slice (some ⟨gr, 0, none⟩) 4000 cp) (cutOf l) rfl y3 48 _ rfl rfl (by rw [HCL.out]; omega) z3 ?_; intro v8 w8 hown8 hgrow8; obtain ⟨g8, m8, c8, rfl⟩ := own_some hown8 (by simp); have hb8 := (hx1.alloc _).grown hgrow8 (by simpa [Value.ownBlock] using hgr.symm); have k1 := hb8.cell 1; have k0 := hb8.cell 0; have q1 := hb8.frozen 1; have q0 := hb8.frozen 0; simp at k0 k1; clear x0 x1)
      go_ret
      exact ⟨rfl, ⟨_, step_end h1 HN.out hb8 hown8⟩, HKC.out xs _ _ _ _ _ (by rw [HW5.out]; exact hgrow8)⟩
    · rw [hlow] at hx
      have hx2 : decide (0 ≤ Go.Lib.indexByte s.data.toList 48) = true := hx
      have hbit : bitC s true = 49 := bit_val s _ _ hlow
      rw [hbit]
      clear hx hlow hbit
      have hk2 : Blk (w.setCell ⟨g, 2, none⟩ (.bool false)) g 45 [.slice (some ⟨gr, 0, none⟩) l.length cp, .int .i64 n, .bool false] := h2.set 2 (.bool false)
      have hk3 := h3.set 2 (.bool false) hne
      have d0 := hk2.cell 0
      have d1 := hk2.cell 1
      simp at d0 d1
      have HK2 := Hd.mk hk2
      have HK3 := Hd.mk hk3
      have HKC := Hd.mk (fun (xs : Array Value) (x u u0 u1 : Value) (w8 : World) (h : ((((((w.setCell ⟨g, 2, none⟩ (.bool false))).drew).setRow gr xs).setCell ⟨g, 0, none⟩ u).alloc (.cells #[x] 5)).grownBy w8 (some gr)) => kept2_cut (w := w) (n := n) (cp := cp) true u u0 u1 h)
      clear hk2 hk3
      go_enter Try.func13, Try.ntmps13
      go_wp2_with (go_at_call 28; refine (index_calls _ _ _).mono ?_; rintro e w' ⟨rfl, hww⟩; have hww := hww.symm; subst hww)
      have e1 : IntKind.i64.wrap ((l.length : Int) - 4000) = (l.length : Int) - 4000 := by rw [IntKind.wrap_i64]; have := HL.out; omega
      refine region_text (by kernel_rfl) (by kernel_rfl) (fun b _ W => CutInv (w.setCell ⟨g, 2, none⟩ (.bool false)) base g gr cp l n b W) ⟨⟨_, HK2.out.drew, fun _ => rfl, fun h => by simp at h⟩, fun _ => rfl, fun h => by simp at h, fun h => by simp at h⟩ ?_
      refine t_pure (.pointer (some ⟨g, 0, none⟩)) (fun _ => rfl) (fun b γ W h => ⟨h.cell, h.fst, h.snd, h.thd⟩) (fun b γ W h _ => by go_simp) ?_
      refine t_pure (.pointer (some ⟨g, 0, none⟩)) (fun _ => rfl) (fun b γ W h => ⟨h.cell, h.fst, h.snd, h.thd⟩) (fun b γ W h _ => by go_simp) ?_
      refine t_pure (.pointer (some ⟨g, 0, none⟩)) (fun _ => rfl) (fun b γ W h => ⟨h.cell, h.fst, h.snd, h.thd⟩) (fun b γ W h _ => by go_simp) ?_
      refine t_pure (.pointer (some ⟨g, 0, none⟩)) (fun _ => rfl) (fun b γ W h => ⟨h.cell, h.fst, h.snd, h.thd⟩) (fun b γ W h _ => by go_simp) ?_
      refine t_run (.slice (some ⟨gr, 0, none⟩) l.length cp) (fun _ => rfl) (fun b γ W h hb _ hf => ⟨W, ?_, ⟨h.cell, h.fst, h.snd, h.thd⟩⟩) ?_
      · have hb24 : b 24 = false := hf 24 _ rfl (by decide)
        obtain ⟨x, hx1, hx2, hx3⟩ := h.cell
        obtain rfl := hx2 hb24
        have x0 := hx1.cell 0
        simp at x0
        go_simp
      refine t_pure (.pointer (some ⟨g, 0, none⟩)) (fun _ => rfl) (fun b γ W h => ⟨h.cell, h.fst, h.snd, h.thd⟩) (fun b γ W h _ => by go_simp) ?_
      refine t_pure (.pointer (some ⟨g, 0, none⟩)) (fun _ => rfl) (fun b γ W h => ⟨h.cell, h.fst, h.snd, h.thd⟩) (fun b γ W h _ => by go_simp) ?_
      refine t_pure (.pointer (some ⟨g, 0, none⟩)) (fun _ => rfl) (fun b γ W h => ⟨h.cell, h.fst, h.snd, h.thd⟩) (fun b γ W h _ => by go_simp) ?_
      refine t_run (.slice (some ⟨gr, 0, none⟩) l.length cp) (fun _ => rfl) (fun b γ W h hb _ hf => ⟨W, ?_, ⟨h.cell, h.fst, h.snd, h.thd⟩⟩) ?_
      · have hb24 : b 24 = false := hf 24 _ rfl (by decide)
        obtain ⟨x, hx1, hx2, hx3⟩ := h.cell
        obtain rfl := hx2 hb24
        have x0 := hx1.cell 0
        simp at x0
        go_simp
      refine t_pure (.pointer (some ⟨g, 0, none⟩)) (fun _ => rfl) (fun b γ W h => ⟨h.cell, h.fst, h.snd, h.thd⟩) (fun b γ W h _ => by go_simp) ?_
      refine t_pure (.pointer (some ⟨g, 0, none⟩)) (fun _ => rfl) (fun b γ W h => ⟨h.cell, h.fst, h.snd, h.thd⟩) (fun b γ W h _ => by go_simp) ?_
      refine t_pure (.pointer (some ⟨g, 0, none⟩)) (fun _ => rfl) (fun b γ W h => ⟨h.cell, h.fst, h.snd, h.thd⟩) (fun b γ W h _ => by go_simp) ?_
      refine t_run (.slice (some ⟨gr, 0, none⟩) l.length cp) (fun _ => rfl) (fun b γ W h hb _ hf => ⟨W, ?_, ⟨h.cell, h.fst, h.snd, h.thd⟩⟩) ?_
      · have hb24 : b 24 = false := hf 24 _ rfl (by decide)
        obtain ⟨x, hx1, hx2, hx3⟩ := h.cell
        obtain rfl := hx2 hb24
        have x0 := hx1.cell 0
        simp at x0
        go_simp
      refine t_pure (.pointer (some ⟨g, 0, none⟩)) (fun _ => rfl) (fun b γ W h => ⟨h.cell, h.fst, h.snd, h.thd⟩) (fun b γ W h _ => by go_simp) ?_
      refine t_pure (.pointer (some ⟨g, 0, none⟩)) (fun _ => rfl) (fun b γ W h => ⟨h.cell, h.fst, h.snd, h.thd⟩) (fun b γ W h _ => by go_simp) ?_
      refine t_pure (.pointer (some ⟨g, 0, none⟩)) (fun _ => rfl) (fun b γ W h => ⟨h.cell, h.fst, h.snd, h.thd⟩) (fun b γ W h _ => by go_simp) ?_
      refine t_run (.slice (some ⟨gr, 0, none⟩) l.length cp) (fun _ => rfl) (fun b γ W h hb _ hf => ⟨W, ?_, ⟨h.cell, h.fst, h.snd, h.thd⟩⟩) ?_
      · have hb24 : b 24 = false := hf 24 _ rfl (by decide)
        obtain ⟨x, hx1, hx2, hx3⟩ := h.cell
        obtain rfl := hx2 hb24
        have x0 := hx1.cell 0
        simp at x0
        go_simp
      refine t_pure (.int .i64 l.length) (fun _ => rfl) (fun b γ W h => ⟨h.cell, h.fst, h.snd, h.thd⟩) (fun b γ W h _ => by go_simp) ?_
      refine t_pure (.int .i64 ((l.length : Int) - 4000)) (fun _ => rfl) (fun b γ W h => ⟨h.cell, h.fst, h.snd, h.thd⟩) (fun b γ W h _ => by go_simp) ?_
      refine t_pure (.slice (some ⟨gr, l.length - 4000, none⟩) 4000 (cp - (l.length - 4000))) (fun _ => rfl) (fun b γ W h => ⟨h.cell, h.fst, h.snd, h.thd⟩) (fun b γ W h _ => ?_) ?_
      · have q1 := HL.out
        have q2 : (0 : Int) ≤ (l.length : Int) - 4000 := by omega
        have q3 : (l.length : Int) - 4000 ≤ l.length := by omega
        have q4 : ((l.length : Int) - 4000).toNat = l.length - 4000 := by omega
        have q5 : l.length - (l.length - 4000) = 4000 := by omega
        have q6 : (cp = l.length - 4000) = False := eq_false (by omega)
        have q7 : ((l.length : Int) < 4000) = False := eq_false (by omega)
        go_simp
      refine t_run (.int .i64 4000) (fun _ => rfl) (fun b γ W h hb hn hf => ?_) ?_
      · have hb24 : b 24 = false := hf 24 _ rfl (by decide)
        have q1 := HL.out
        obtain rfl := h.fst hb
        obtain ⟨x, hx1, hx2, hx3⟩ := h.cell
        obtain rfl := hx2 hb24
        obtain ⟨xs, y1, y2⟩ := copy_down (P := Try.prog) (w := ((w.setCell ⟨g, 2, none⟩ (.bool false))).drew) 36 3 5 Try.underlying36 (by rw [hi, Option.map_some, hz1]) base gr cp (l.length - 4000) l (HK3.out.kept (row := none) (by exact grown_drew (grown_refl _ _)) (.inr (by simp [Value.ownBlock]))) (by omega)
        have e4 : l.length - (l.length - 4000) = 4000 := by omega
        rw [e4] at y1 y2
        refine ⟨((w.setCell ⟨g, 2, none⟩ (.bool false))).drew.setRow gr xs, by go_simp, ?_⟩
        have hb24' : up b 20 24 = false := by simp [up, hb24]
        exact ⟨⟨_, (setRow_other _ gr g xs hgr.symm).trans hx1, fun _ => rfl, fun h => by rw [hb24'] at h; cases h⟩, fun h => by simp [up] at h, fun _ _ => ⟨xs, rfl, y2⟩, fun h => by rw [hb24'] at h; cases h⟩
      refine t_pure (.slice (some ⟨gr, 0, none⟩) 4000 cp) (fun _ => rfl) (fun b γ W h => ⟨h.cell, h.fst, h.snd, h.thd⟩) (fun b γ W h _ => ?_) ?_
      · have q1 := HL.out
        have q2 : (4000 : Int) ≤ cp := by omega
        go_simp
      refine t_pure (.pointer (some ⟨g, 0, none⟩)) (fun _ => rfl) (fun b γ W h => ⟨h.cell, h.fst, h.snd, h.thd⟩) (fun b γ W h _ => by go_simp) ?_
      refine t_pure (.pointer (some ⟨g, 0, none⟩)) (fun _ => rfl) (fun b γ W h => ⟨h.cell, h.fst, h.snd, h.thd⟩) (fun b γ W h _ => by go_simp) ?_
      refine t_store (fun _ => rfl) (fun b γ W h hb hn hf => ?_) ?_
      · have h20 : b 20 = true := hn 20 (by decide)
        obtain ⟨xs, rfl, y2⟩ := h.snd h20 hb
        obtain ⟨x, hx1, hx2, hx3⟩ := h.cell
        have x0 := hx1.cell 0
        have f0 := hx1.frozen 0
        simp at x0
        refine ⟨(((w.setCell ⟨g, 2, none⟩ (.bool false))).drew.setRow gr xs).setCell ⟨g, 0, none⟩ (.slice (some ⟨gr, 0, none⟩) 4000 cp), by go_simp, ⟨_, hx1.set 0 _, fun h => by simp [up] at h, fun _ => rfl⟩, fun h => ?_, fun _ h => by simp [up] at h, fun _ => ⟨xs, rfl, y2⟩⟩
        have : up b 24 20 = true := by simp [up, h20]
        rw [this] at h; cases h
      refine t_end ?_
      intro bq gq w5 hall hS
      obtain ⟨xs, rfl, y2⟩ := hS.thd (hall 24 (by decide))
      obtain ⟨x, hx1, hx2, hx3⟩ := hS.cell
      have z1 := hx3 (hall 24 (by decide))
      subst z1
      clear hS hall hx2 hx3 e1
      have y3 := y2.set 0 (.slice (some ⟨gr, 0, none⟩) 4000 cp) (g := g) (by simpa [Value.ownBlock] using hgr)
      simp only [Act.put, List.setIfInBounds_toArray, List.set_cons_zero, List.set_cons_succ]
      generalize hw5 : (((((w.setCell ⟨g, 2, none⟩ (.bool false))).drew).setRow gr xs).setCell ⟨g, 0, none⟩ (.slice (some ⟨gr, 0, none⟩) 4000 cp)) = w5 at *
      have HW5 := Hd.mk hw5
      clear hw5 hc0 hc1 hc2 hf2
      have z3 : base ≤ w5.heap.size := Nat.le_trans h1 (Nat.le_of_lt hx1.lt)
      have x0 := hx1.cell 0
      have x1 := hx1.cell 1
      simp at x0 x1
      have hcl : (cutOf l).length = 4000 := by have := HL.out; unfold cutOf; rw [List.length_drop]; omega
      have HCL := Hd.mk hcl
      clear hcl
      go_wp2_with (at_builtin; refine app_byte rfl (.tmp 54) (.tmp 56) 36 rfl base 5 i0 Try.underlying36 hi hz0 hz1 hz2 (.slice (some ⟨gr, 0, none⟩) 4000 cp) (cutOf l) rfl y3 49 _ rfl rfl (by rw [HCL.out]; omega) z3 ?_; intro v8 w8 hown8 hgrow8; obtain ⟨g8, m8, c8, rfl⟩ := own_some hown8 (by simp); have hb8 := (hx1.alloc _).grown hgrow8 (by simpa [Value.ownBlock] using hgr.symm); have k1 := hb8.cell 1; have k0 := hb8.cell 0; have q1 := hb8.frozen 1; have q0 := hb8.frozen 0; simp at k0 k1; clear x0 x1)
      go_ret
      exact ⟨rfl, ⟨_, step_end h1 HN.out hb8 hown8⟩, HKC.out xs _ _ _ _ _ (by rw [HW5.out]; exact hgrow8)⟩
end Go.Proofs.Ytlfeidakmhniaaa.BusW
