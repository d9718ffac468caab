/- The walks of package bus, continued: a copy. -/
import Derived.Test.YtlfeidakmhniaaaBusWalksD
namespace Go.Proofs.Ytlfeidakmhniaaa.BusW
set_option linter.unusedVariables false
set_option linter.unusedSimpArgs false
open Go Go.RowKit Go.Proofs.Ytlfeidakmhniaaa.Lib Go.Proofs.YtlfeidakmhniaaaW.PrintMore
attribute [local go_sem] max2_int min2_int max_two min_two

theorem below_setRow {B : Nat} {w0 w : World} {r : Nat} {T : TypeId} {cs : List Value} (h : Below B w0 w) (hb : Blk w r T cs) (hr : B ≤ r) (xs : Array Value) : Below B w0 (w.setRow r xs) :=
  h.grown (row := some r) ⟨rfl, rfl, rfl, by simp [World.setRow], fun k _ hk => setRow_other w r k _ (fun e => hk (by rw [e]))⟩ (Nat.le_trans hr (Nat.le_of_lt hb.lt)) (fun k e => by cases e; exact hr)
theorem blk_setRow {w : World} {r g : Nat} {T T' : TypeId} {cs cs' : List Value} (hb : Blk w r T cs) (h : Blk w g T' cs') (hne : g ≠ r) (xs : Array Value) : Blk (w.setRow r xs) g T' cs' :=
  (setRow_other w r g _ hne).trans h
theorem copy_whole {P : Program} {w : World} (dT ty elem : TypeId) (hu : P.underlying dT = some (.slice elem)) (hs : (P.info? elem).map (·.size) = some 1) (r : Nat) (T e : TypeId) (cs : List Value) (base : Nat) (v : Value) (l : List UInt8)
    (hr : Blk w r T cs) (hcs : cs.length = l.length) (hown : OwnB w base e v l) :
    ∃ w', (Builtin.copy_ #[dT, dT] ty #[.slice (some ⟨r, 0, none⟩) l.length l.length, v]).run P w = .ok (.int .i64 l.length) w' ∧ Blk w' r T (byteVs l) ∧ (w' = w ∨ ∃ xs, w' = w.setRow r xs) := by
  rcases own_len hown with ⟨rfl, hz⟩ | ⟨gr, cp, rfl, hcp⟩
  · obtain rfl : l = [] := List.eq_nil_of_length_eq_zero hz
    refine ⟨w, ?_, ?_, .inl rfl⟩
    · exact Go.run_copy_nil P w dT dT ty elem ⟨r, 0, none⟩ 0 0 hu (by cases h : P.info? elem <;> simp [h] at hs ⊢)
    · have : cs = [] := List.eq_nil_of_length_eq_zero hcs
      rw [this] at hr
      exact hr
  · have hrun := run_copy_row (P := P) w dT dT ty elem r 0 l.length l.length ⟨gr, 0, none⟩ l.length cp cs.toArray T (byteVs l) hu hs hr (by rw [byteVs_length]; simp)
      (fun j u hj => World.ownsRow.cells (g := gr) hown rfl j u hj) (by rw [byteVs_length]; simp [hcs]) (fun u hu => by
        simp only [byteVs, List.mem_map] at hu
        obtain ⟨x, _, rfl⟩ := hu
        rfl)
    refine ⟨w.setRow r (List.take 0 cs ++ byteVs l ++ cs.drop (0 + (byteVs l).length)).toArray, hrun.trans ?_, ?_, .inr ⟨_, rfl⟩⟩
    · rw [byteVs_length]; rfl
    · have := setRow_heap w r cs.toArray (List.take 0 cs ++ byteVs l ++ cs.drop (0 + (byteVs l).length)).toArray T (0, 0) hr
      have e : List.take 0 cs ++ byteVs l ++ cs.drop (0 + (byteVs l).length) = byteVs l := by
        rw [byteVs_length, List.drop_of_length_le (by omega)]
        simp
      show Blk (w.setRow r (List.take 0 cs ++ byteVs l ++ cs.drop (0 + (byteVs l).length)).toArray) r T _
      unfold Blk
      rw [this, e]

set_option maxRecDepth 100000 in
set_option maxHeartbeats 3200000 in
theorem copy_calls (base g : Nat) (v : Value) (l : List UInt8) (n : Int) (t : Bool) (w : World) (h : IsBus w base g v l n t) (hl : l.length ≤ 1000000) :
    Calls Try.prog 27 #[.pointer (some ⟨g, 0, none⟩)] w fun e w' => e = .returned (.pointer (some ⟨w.heap.size, 0, none⟩)) ∧
      (∃ r, w.heap.size < r ∧ Blk w' w.heap.size 45 [.slice (some ⟨r, 0, none⟩) l.length l.length, .int .i64 n, .bool t] ∧ Blk w' r 5 (byteVs l)) ∧ Below w.heap.size w w' := by
  obtain ⟨h1, h2, h3⟩ := h
  obtain ⟨i0, hi, hz0, hz1, hz2⟩ := info_parts info_u8
  have hu := Try.underlying45
  have hc0 := h2.cell 0
  have hc1 := h2.cell 1
  have hc2 := h2.cell 2
  simp at hc0 hc1 hc2
  have hlen := own_len h3
  have HLL := Hd.mk hl
  have hlt := h2.lt
  have hgc : g ≠ w.heap.size := by omega
  rcases hlen with ⟨rfl, hz⟩ | ⟨gr, cp, rfl, hcp⟩
  · obtain rfl : l = [] := List.eq_nil_of_length_eq_zero hz
    clear hz hl
    go_enter Try.func27, Try.ntmps27
    go_wp2_with (at_make; go_loud (refine make_blk _ rfl _ _ 36 rfl 5 i0 (.int .u8 0) Try.underlying36 hi hz0 hz1 rfl 0 rfl rfl (by rw [hz2]; have := HLL.out; omega) (by unfold maxLen; have := HLL.out; omega) ?_; intro w1 r hr hb hgrow; have hbc := (Blk.new w [(.slice none 0 0), .int .i64 n, .bool t] 45).grown hgrow (by simp); have k0 := hbc.cell 0; simp at k0; have q0 := hbc.frozen 0; have hbg := (h2.alloc (.cells #[(.slice none 0 0), .int .i64 n, .bool t] 45)).grown hgrow (by simp); have j0 := hbg.cell 0; simp at j0))
    have hown1 := (h3.alloc (.cells #[(.slice none 0 0), .int .i64 n, .bool t] 45)).kept hgrow (by cases (Value.ownBlock (.slice none 0 0)) <;> simp)
    have hr' : w.heap.size < r := by simp at hr; omega
    have hB1 : Below w.heap.size w w1 := ((Below.refl w.heap.size w).alloc (Nat.le_refl _) _).grown hgrow (by simp) (fun k e => by cases e)
    have hnog := hown1.ne hbc (by decide)
    have s1 := hbc.set 0 (.slice (some ⟨r, 0, none⟩) 0 0)
    have s2 : Blk (w1.setCell ⟨w.heap.size, 0, none⟩ (.slice (some ⟨r, 0, none⟩) 0 0)) g 45 [(.slice none 0 0), .int .i64 n, .bool t] := hbg.far (p := ⟨w.heap.size, 0, none⟩) hgc _
    have s3 : Blk (w1.setCell ⟨w.heap.size, 0, none⟩ (.slice (some ⟨r, 0, none⟩) 0 0)) r 5 (List.replicate 0 (.int .u8 0)) := hb.far (p := ⟨w.heap.size, 0, none⟩) (show r ≠ w.heap.size by omega) _
    have s4 := hown1.set 0 (.slice (some ⟨r, 0, none⟩) 0 0) hnog
    have s5 : Below w.heap.size w (w1.setCell ⟨w.heap.size, 0, none⟩ (.slice (some ⟨r, 0, none⟩) 0 0)) := hB1.setCell (by exact Nat.le_refl _) _
    simp only [List.set_cons_zero] at s1
    generalize w1.setCell ⟨w.heap.size, 0, none⟩ (.slice (some ⟨r, 0, none⟩) 0 0) = w2 at *
    have hrc : r ≠ w.heap.size := by omega
    have hgr : g ≠ r := by omega
    refine region_text (by kernel_rfl) (by kernel_rfl) (fun b _ W => Blk W w.heap.size 45 [.slice (some ⟨r, 0, none⟩) 0 0, .int .i64 n, .bool t] ∧ Blk W g 45 [(.slice none 0 0), .int .i64 n, .bool t] ∧ OwnB W base 5 (.slice none 0 0) ([] : List UInt8) ∧ (∃ cs, Blk W r 5 cs ∧ cs.length = 0 ∧ (b 6 = true → cs = byteVs ([] : List UInt8))) ∧ Below w.heap.size w W) ⟨s1.drew, s2.drew, s4.kept (row := none) (by exact grown_drew (grown_refl _ _)) (by cases (Value.ownBlock (.slice none 0 0)) <;> simp), ⟨_, s3.drew, by simp, fun h => by cases h⟩, s5.drew⟩ ?_
    refine t_pure (.pointer (some ⟨w.heap.size, 0, none⟩)) (fun _ => rfl) (fun b γ W h => h) (fun b γ W h _ => by go_simp) ?_
    refine t_pure (.slice (some ⟨r, 0, none⟩) 0 0) (fun _ => rfl) (fun b γ W h => h) (fun b γ W h _ => by have x0 := h.1.cell 0; simp at x0; go_simp) ?_
    refine t_pure (.pointer (some ⟨g, 0, none⟩)) (fun _ => rfl) (fun b γ W h => h) (fun b γ W h _ => by go_simp) ?_
    refine t_pure (.pointer (some ⟨g, 0, none⟩)) (fun _ => rfl) (fun b γ W h => h) (fun b γ W h _ => by have x0 := h.2.1.cell 0; simp at x0; go_simp) ?_
    refine t_pure (.pointer (some ⟨g, 0, none⟩)) (fun _ => rfl) (fun b γ W h => h) (fun b γ W h _ => by go_simp) ?_
    refine t_pure (.slice none 0 0) (fun _ => rfl) (fun b γ W h => h) (fun b γ W h _ => by have x0 := h.2.1.cell 0; simp at x0; go_simp) ?_
    refine t_run (.int .i64 0) (fun _ => rfl) (fun b γ W h _ _ _ => ?_) ?_
    · obtain ⟨q1, q2, q3, ⟨cs, q4, q5, q6⟩, q7⟩ := h
      obtain ⟨W', x1, x2, x3⟩ := copy_whole (P := Try.prog) 36 3 5 Try.underlying36 (by rw [hi, Option.map_some, hz1]) r 5 5 cs base (.slice none 0 0) ([] : List UInt8) q4 q5 q3
      refine ⟨W', ?_, ?_⟩
      · (try simp only [List.length_nil] at x1)
        go_simp
      · have hno : Value.ownBlock (.slice none 0 0) ≠ some r := by
          simp [Value.ownBlock]
        rcases x3 with rfl | ⟨xs, rfl⟩
        · exact ⟨q1, q2, q3, ⟨_, x2, byteVs_length _, fun _ => rfl⟩, q7⟩
        · exact ⟨blk_setRow q4 q1 (fun e => hrc e.symm) xs, blk_setRow q4 q2 hgr xs, q3.kept (row := some r) ⟨rfl, rfl, rfl, by simp [World.setRow], fun k _ hk => setRow_other _ r k _ (fun e => hk (by rw [e]))⟩ (.inr hno), ⟨_, x2, byteVs_length _, fun _ => rfl⟩, below_setRow q7 q4 (by omega) xs⟩
    refine t_end ?_
    intro bq gq w5 hall hS
    obtain ⟨q1, q2, q3, ⟨cs, q4, q5, q6⟩, q7⟩ := hS
    obtain rfl := q6 (hall 6 (by decide))
    simp only [Act.put, List.setIfInBounds_toArray, List.set_cons_zero, List.set_cons_succ]
    go_wp2_with fail
    go_ret
    exact ⟨rfl, ⟨r, by omega, q1, q4⟩, q7⟩
  · go_enter Try.func27, Try.ntmps27
    go_wp2_with (at_make; go_loud (refine make_blk _ rfl _ _ 36 rfl 5 i0 (.int .u8 0) Try.underlying36 hi hz0 hz1 rfl l.length rfl rfl (by rw [hz2]; have := HLL.out; omega) (by unfold maxLen; have := HLL.out; omega) ?_; intro w1 r hr hb hgrow; have hbc := (Blk.new w [(.slice (some ⟨gr, 0, none⟩) l.length cp), .int .i64 n, .bool t] 45).grown hgrow (by simp); have k0 := hbc.cell 0; simp at k0; have q0 := hbc.frozen 0; have hbg := (h2.alloc (.cells #[(.slice (some ⟨gr, 0, none⟩) l.length cp), .int .i64 n, .bool t] 45)).grown hgrow (by simp); have j0 := hbg.cell 0; simp at j0))
    have hown1 := (h3.alloc (.cells #[(.slice (some ⟨gr, 0, none⟩) l.length cp), .int .i64 n, .bool t] 45)).kept hgrow (by cases (Value.ownBlock (.slice (some ⟨gr, 0, none⟩) l.length cp)) <;> simp)
    have hr' : w.heap.size < r := by simp at hr; omega
    have hB1 : Below w.heap.size w w1 := ((Below.refl w.heap.size w).alloc (Nat.le_refl _) _).grown hgrow (by simp) (fun k e => by cases e)
    have hnog := hown1.ne hbc (by decide)
    have s1 := hbc.set 0 (.slice (some ⟨r, 0, none⟩) l.length l.length)
    have s2 : Blk (w1.setCell ⟨w.heap.size, 0, none⟩ (.slice (some ⟨r, 0, none⟩) l.length l.length)) g 45 [(.slice (some ⟨gr, 0, none⟩) l.length cp), .int .i64 n, .bool t] := hbg.far (p := ⟨w.heap.size, 0, none⟩) hgc _
    have s3 : Blk (w1.setCell ⟨w.heap.size, 0, none⟩ (.slice (some ⟨r, 0, none⟩) l.length l.length)) r 5 (List.replicate l.length (.int .u8 0)) := hb.far (p := ⟨w.heap.size, 0, none⟩) (show r ≠ w.heap.size by omega) _
    have s4 := hown1.set 0 (.slice (some ⟨r, 0, none⟩) l.length l.length) hnog
    have s5 : Below w.heap.size w (w1.setCell ⟨w.heap.size, 0, none⟩ (.slice (some ⟨r, 0, none⟩) l.length l.length)) := hB1.setCell (by exact Nat.le_refl _) _
    simp only [List.set_cons_zero] at s1
    generalize w1.setCell ⟨w.heap.size, 0, none⟩ (.slice (some ⟨r, 0, none⟩) l.length l.length) = w2 at *
    have hrc : r ≠ w.heap.size := by omega
    have hgr : g ≠ r := by omega
    refine region_text (by kernel_rfl) (by kernel_rfl) (fun b _ W => Blk W w.heap.size 45 [.slice (some ⟨r, 0, none⟩) l.length l.length, .int .i64 n, .bool t] ∧ Blk W g 45 [(.slice (some ⟨gr, 0, none⟩) l.length cp), .int .i64 n, .bool t] ∧ OwnB W base 5 (.slice (some ⟨gr, 0, none⟩) l.length cp) l ∧ (∃ cs, Blk W r 5 cs ∧ cs.length = l.length ∧ (b 6 = true → cs = byteVs l)) ∧ Below w.heap.size w W) ⟨s1.drew, s2.drew, s4.kept (row := none) (by exact grown_drew (grown_refl _ _)) (by cases (Value.ownBlock (.slice (some ⟨gr, 0, none⟩) l.length cp)) <;> simp), ⟨_, s3.drew, by simp, fun h => by cases h⟩, s5.drew⟩ ?_
    refine t_pure (.pointer (some ⟨w.heap.size, 0, none⟩)) (fun _ => rfl) (fun b γ W h => h) (fun b γ W h _ => by go_simp) ?_
    refine t_pure (.slice (some ⟨r, 0, none⟩) l.length l.length) (fun _ => rfl) (fun b γ W h => h) (fun b γ W h _ => by have x0 := h.1.cell 0; simp at x0; go_simp) ?_
    refine t_pure (.pointer (some ⟨g, 0, none⟩)) (fun _ => rfl) (fun b γ W h => h) (fun b γ W h _ => by go_simp) ?_
    refine t_pure (.pointer (some ⟨g, 0, none⟩)) (fun _ => rfl) (fun b γ W h => h) (fun b γ W h _ => by have x0 := h.2.1.cell 0; simp at x0; go_simp) ?_
    refine t_pure (.pointer (some ⟨g, 0, none⟩)) (fun _ => rfl) (fun b γ W h => h) (fun b γ W h _ => by go_simp) ?_
    refine t_pure (.slice (some ⟨gr, 0, none⟩) l.length cp) (fun _ => rfl) (fun b γ W h => h) (fun b γ W h _ => by have x0 := h.2.1.cell 0; simp at x0; go_simp) ?_
    refine t_run (.int .i64 l.length) (fun _ => rfl) (fun b γ W h _ _ _ => ?_) ?_
    · obtain ⟨q1, q2, q3, ⟨cs, q4, q5, q6⟩, q7⟩ := h
      obtain ⟨W', x1, x2, x3⟩ := copy_whole (P := Try.prog) 36 3 5 Try.underlying36 (by rw [hi, Option.map_some, hz1]) r 5 5 cs base (.slice (some ⟨gr, 0, none⟩) l.length cp) l q4 q5 q3
      refine ⟨W', ?_, ?_⟩
      · (try simp only [List.length_nil] at x1)
        go_simp
      · have hno : Value.ownBlock (.slice (some ⟨gr, 0, none⟩) l.length cp) ≠ some r := by
          simp only [Value.ownBlock, ne_eq, Option.some.injEq]; have := (World.ownsRow.lt h3 gr rfl).2; omega
        rcases x3 with rfl | ⟨xs, rfl⟩
        · exact ⟨q1, q2, q3, ⟨_, x2, byteVs_length _, fun _ => rfl⟩, q7⟩
        · exact ⟨blk_setRow q4 q1 (fun e => hrc e.symm) xs, blk_setRow q4 q2 hgr xs, q3.kept (row := some r) ⟨rfl, rfl, rfl, by simp [World.setRow], fun k _ hk => setRow_other _ r k _ (fun e => hk (by rw [e]))⟩ (.inr hno), ⟨_, x2, byteVs_length _, fun _ => rfl⟩, below_setRow q7 q4 (by omega) xs⟩
    refine t_end ?_
    intro bq gq w5 hall hS
    obtain ⟨q1, q2, q3, ⟨cs, q4, q5, q6⟩, q7⟩ := hS
    obtain rfl := q6 (hall 6 (by decide))
    simp only [Act.put, List.setIfInBounds_toArray, List.set_cons_zero, List.set_cons_succ]
    go_wp2_with fail
    go_ret
    exact ⟨rfl, ⟨r, by omega, q1, q4⟩, q7⟩
end Go.Proofs.Ytlfeidakmhniaaa.BusW
