/- A reader tells its frame; rows of bits are read. -/
import Derived.Test.YtpkpnaedacefaaaGreatCodePush
namespace Go.Proofs.YtpkpnaedacefaaaGreat.CodeW
set_option linter.unusedVariables false
set_option linter.unusedSimpArgs false
open Go Go.RowKit Go.Proofs.YtpkpnaedacefaaaGreat.Lib Go.Proofs.YtpkpnaedacefaaaGreat.Bits Go.Proofs.YtpkpnaedacefaaaGreat.BitsW Go.Proofs.YtpkpnaedacefaaaGreat.StuffW Go.Proofs.YtpkpnaedacefaaaGreat.Frame Go.Proofs.YtpkpnaedacefaaaGreat.FrameW Go.Proofs.YtpkpnaedacefaaaGreat.Code Go.Proofs.YtpkpnaedacefaaaGreat.PrintMore
attribute [local go_sem] max2_int min2_int max_two min_two


/-- What the region that reads the frame keeps. -/
structure FrInv (w : World) (g : Nat) (T : TypeId) (cs : List Value) (e : Bool) (n : Int) (r : Bool) (d : ByteArray) (b : Nat → Bool) (γ : Nat → Nat) (W : World) : Prop where
  rd : Blk W g T cs
  res : Blk W w.heap.size 35 [.bool false, .int .u32 0, .bool false, .string ⟨#[]⟩]
  below : Below w.heap.size w W
  new : b 14 = true → w.heap.size < γ 14 ∧ (b 15 = false → Blk W (γ 14) 35 [.bool false, .int .u32 0, .bool false, .string ⟨#[]⟩]) ∧ (b 15 = true → Blk W (γ 14) 35 [.bool e, .int .u32 n, .bool r, .string d])
theorem set4_far {w : World} {g r0 : Nat} {T : TypeId} {cs : List Value} (h : Blk w g T cs) (hne : g ≠ r0) (e : Bool) (n : Int) (r : Bool) (d : ByteArray) : Blk (set4 w r0 e n r d) g T cs :=
  (((h.far (p := ⟨r0, 0, none⟩) hne _).far (p := ⟨r0, 1, none⟩) hne _).far (p := ⟨r0, 2, none⟩) hne _).far (p := ⟨r0, 3, none⟩) hne _
set_option maxRecDepth 100000 in
set_option maxHeartbeats 6400000 in
theorem frame_calls (g o : Nat) (T : TypeId) (cs : List Value) (R : Rd) (w : World) (hb : Blk w g T cs) (hr : IsRd cs o R) (hok : Rd.Ok R) :
    Calls Tryz.prog 64 #[.pointer (some ⟨g, o, none⟩)] w fun x w' =>
      x = .returned (.agg #[.bool (parseL R.b).1.1, .int .u32 (parseL R.b).1.2.1, .bool (parseL R.b).1.2.2.1, .string ⟨(parseL R.b).1.2.2.2.toArray⟩]) ∧ Below w.heap.size w w' := by
  have hl := hok.len
  have hlt := hb.lt
  have hcell : ∀ i, i < R.b.length → cs[o + 2 + i]? = (arrOf R.b)[i]? := fun i hi => hr.row i (by omega)
  have HCONV := hid (fun (W : World) (hW : Blk W g T cs) => conv_row (P := Tryz.prog) 70 9 5 Tryz.underlying70 Tryz.underlying5 Tryz.underlying9 W g (o + 2) 128 T cs R.b R.b.length hW rfl hcell)
  have HPA := hid (fun (W : World) => parse_calls (B R.b) W (by rw [B_size]; omega))
  have HQ2 := hid hr.get.2.2.1
  have n5 : ((R.b.length : Int) ≤ 128) = True := eq_true (by omega)
  have n7 : (R.b.length ≤ 128) = True := eq_true (by omega)
  have n6 : ((0 : Int) ≤ (R.b.length : Int)) = True := eq_true (by omega)
  simp only [bitsOf_B] at HPA
  have HB1 := hb.alloc (.cells #[.bool false, .int .u32 0, .bool false, .string ⟨#[]⟩] 35)
  have HR1 := Blk.new w [.bool false, .int .u32 0, .bool false, .string ⟨#[]⟩] 35
  have HW1 := (Below.refl w.heap.size w).alloc (Nat.le_refl _) (.cells #[.bool false, .int .u32 0, .bool false, .string ⟨#[]⟩] 35)
  have HLT := hid hlt
  clear hb hr hok hcell hl hlt
  obtain ⟨⟨⟨e, n, r, d⟩, k, ec⟩, hp⟩ : ∃ q, parseL R.b = q := ⟨_, rfl⟩
  rw [hp] at HPA ⊢
  clear hp
  simp only at HPA ⊢
  generalize (⟨d.toArray⟩ : ByteArray) = D at *
  generalize (n : Int) = n at *
  generalize R.b.length = L at *
  go_enter Tryz.func64, Tryz.ntmps64
  go_wp2_with fail
  refine region_text (by kernel_rfl) (by kernel_rfl) (FrInv w g T cs e n r D) ⟨HB1.drew, HR1.drew, HW1.drew, fun h => by simp at h⟩ ?_
  clear HB1 HR1 HW1
  iterate 9 ((try simp only [Act.put, List.setIfInBounds_toArray, List.set_cons_zero, List.set_cons_succ]); first
    | (refine t_skip (fun _ => rfl) (fun b γ W h => ⟨h.rd, h.res, h.below, h.new⟩) ?_)
    | (refine t_pure ?_ (fun _ => rfl) (fun b γ W h => ⟨h.rd, h.res, h.below, h.new⟩) (fun b γ W h _ => ?_) ?_; rotate_left; · (have hc := (h.rd.cell (o + 130)).trans HQ2.out; have hcv := HCONV.out W h.rd; go_simp; rfl)))
  (try simp only [Act.put, List.setIfInBounds_toArray, List.set_cons_zero, List.set_cons_succ])
  refine t_call (.tuple #[.agg #[.bool e, .int .u32 n, .bool r, .string D], .int .i64 (k : Int), .int .i64 (ec : Int)]) (fun _ => rfl) (f := 90) (args := #[.string (B R.b)]) (fun b γ W h _ => by go_simp) (fun b γ W h _ => (HPA.out W).mono (fun x w2 h2 =>
    ⟨h2.1, h.rd.below h2.2, h.res.below h2.2, h.below.trans (h2.2.mono h.below.size), fun h14 => ⟨(h.new h14).1, fun h15 => ((h.new h14).2.1 h15).below h2.2, fun h15 => ((h.new h14).2.2 h15).below h2.2⟩⟩)) ?_
  iterate 4 ((try simp only [Act.put, List.setIfInBounds_toArray, List.set_cons_zero, List.set_cons_succ]); first
    | (refine t_skip (fun _ => rfl) (fun b γ W h => ⟨h.rd, h.res, h.below, h.new⟩) ?_)
    | (refine t_pure ?_ (fun _ => rfl) (fun b γ W h => ⟨h.rd, h.res, h.below, h.new⟩) (fun b γ W h _ => ?_) ?_; rotate_left; · (go_simp; rfl)))
  (try simp only [Act.put, List.setIfInBounds_toArray, List.set_cons_zero, List.set_cons_succ])
  refine t_alloc2 (fun _ => rfl) (fun b γ W h hb hf => ⟨W.alloc (.cells #[.bool false, .int .u32 0, .bool false, .string ⟨#[]⟩] 35), by go_simp, ?_⟩) ?_
  · have h15 : b 15 = false := hf 15 _ rfl (by decide)
    have h15' : up b 14 15 = false := by simp [up, h15]
    have hu : upd γ 14 W.heap.size 14 = W.heap.size := by simp [upd]
    exact ⟨h.rd.alloc _, h.res.alloc _, h.below.alloc h.below.size _, fun _ => ⟨by rw [hu]; exact h.res.lt, fun _ => by rw [hu]; exact Blk.new W [.bool false, .int .u32 0, .bool false, .string ⟨#[]⟩] 35, fun h => (by rw [h15'] at h; cases h)⟩⟩
  (try simp only [Act.put, List.setIfInBounds_toArray, List.set_cons_zero, List.set_cons_succ])
  refine t_store (fun _ => rfl) (fun b γ W h hb hn hf => ?_) ?_
  · have h14 : b 14 = true := hn 14 (by decide)
    obtain ⟨g1, g2, _⟩ := h.new h14
    have hbk := g2 hb
    obtain ⟨x0, x1, x2, x3⟩ := frame_res hbk
    obtain ⟨f0, f1, f2, f3⟩ := frame_free hbk
    refine ⟨set4 W (γ 14) e n r D, ?_, ?_⟩
    · unfold set4
      go_simp
    · exact ⟨set4_far h.rd (by have := HLT.out; omega) e n r D, set4_far h.res (by omega) e n r D, set4_below h.below (by omega) e n r D, fun _ => ⟨g1, fun h => (by simp [up] at h), fun _ => set4_blk hbk e n r D⟩⟩
  iterate 2 ((try simp only [Act.put, List.setIfInBounds_toArray, List.set_cons_zero, List.set_cons_succ]); first
    | (refine t_skip (fun _ => rfl) (fun b γ W h => ⟨h.rd, h.res, h.below, h.new⟩) ?_)
    | (refine t_pure ?_ (fun _ => rfl) (fun b γ W h => ⟨h.rd, h.res, h.below, h.new⟩) (fun b γ W h _ => ?_) ?_; rotate_left; · (go_simp; rfl)))
  refine t_end ?_
  intro bq gq w3 hall HS
  obtain ⟨g1, _, g2⟩ := HS.new (hall 14 (by decide))
  have hbk := g2 (hall 15 (by decide))
  obtain ⟨x0, x1, x2, x3⟩ := frame_res hbk
  obtain ⟨y0, y1, y2, y3⟩ := frame_res HS.res
  obtain ⟨f0, f1, f2, f3⟩ := frame_free HS.res
  have hfin := set4_blk HS.res e n r D
  have HFB := hid (set4_below HS.below (Nat.le_refl _) e n r D)
  have hz := frame_res hfin
  clear hall hfin hbk g2
  unfold set4 at hz HFB
  have HZ := hid hz
  clear hz
  (try simp only [Act.put, List.setIfInBounds_toArray, List.set_cons_zero, List.set_cons_succ])
  go_wp2_with fail
  obtain ⟨z0, z1, z2, z3⟩ := HZ.out
  exact bodyPost_ret (v := .agg #[.bool e, .int .u32 n, .bool r, .string D]) (by simp [results, Tryz.results64, go_sem, z0, z1, z2, z3]) rfl ⟨rfl, HFB.out⟩
end Go.Proofs.YtpkpnaedacefaaaGreat.CodeW
