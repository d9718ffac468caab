/- The walks of package mac: a frame is asked for; the bit that is driven; a new node, a copy. -/
import Derived.Test.YtgmjofcbdimjgaaMacB
import Derived.Test.YtgmjofcbdimjgaaFrameC
namespace Go.Proofs.Ytgmjofcbdimjgaa.MacW
set_option linter.unusedVariables false
set_option linter.unusedSimpArgs false
open Go Go.RowKit Go.Proofs.Ytgmjofcbdimjgaa.Lib Go.Proofs.Ytgmjofcbdimjgaa.Bits Go.Proofs.Ytgmjofcbdimjgaa.BitsW Go.Proofs.Ytgmjofcbdimjgaa.StuffW Go.Proofs.Ytgmjofcbdimjgaa.Frame Go.Proofs.Ytgmjofcbdimjgaa.FrameW Go.Proofs.Ytgmjofcbdimjgaa.Code Go.Proofs.Ytgmjofcbdimjgaa.CodeW Go.Proofs.Ytgmjofcbdimjgaa.Mac Go.Proofs.Ytgmjofcbdimjgaa.PrintMore
attribute [local go_sem] max2_int min2_int max_two min_two
def askm (m : M) (f : Fm) (x y : Bool) : M := { m with waits := if x then true else m.waits, f := if y then f else m.f }
/-- The region in which a frame is laid down. -/
structure AskInv (w : World) (g p : Nat) (m : M) (f : Fm) (b : Nat → Bool) (_γ : Nat → Nat) (W : World) : Prop where
  node : At w W g (askm m f (b 5) (b 8))
  box : Blk W p 24 (fc f)
set_option maxRecDepth 100000 in
set_option maxHeartbeats 3200000 in
theorem ask_calls (g : Nat) (m : M) (f : Fm) (w : World) (hb : Blk w g MT (mc m)) : Calls Try.prog 20 #[.pointer (some ⟨g, 0, none⟩), fv f] w fun e w' => e = .returned (.int .i64 (m.ask f).2) ∧ At w w' g (m.ask f).1 := by
  have hA := hb.alloc (.cells #[.bool f.e, .int .u32 f.i, .bool f.r, .string f.d] 24)
  obtain ⟨c0, c1, c2, c3, c4, c5, c6, c7, c8, c9, c10, c11, c12⟩ := hd13 hA
  have hF : Blk (w.alloc (.cells #[.bool f.e, .int .u32 f.i, .bool f.r, .string f.d] 24)) w.heap.size 24 (fc f) := Blk.new w (fc f) 24
  have a0 := hF.cell 0
  have a1 := hF.cell 1
  have a2 := hF.cell 2
  have a3 := hF.cell 3
  simp only [fc, List.getElem?_cons_zero, List.getElem?_cons_succ] at a0 a1 a2 a3
  have H0 := hid (show At w _ g m from ⟨hA, grown_alloc (grown_refl w (some g)) _⟩)
  have HF := hid hF
  have HI := hid (fun W => frame_is f.e f.i f.r f.d W)
  obtain ⟨X, hX⟩ : ∃ X, X = m.ask f := ⟨_, rfl⟩
  rw [← hX]
  unfold M.ask Fm.ok at hX
  clear hA hb hF c1 c2 c3 c5 c6 c7 c8 c9 c10 c11 c12
  unfold fv
  by_cases h7 : m.st = 7
  · rw [if_pos h7] at hX
    have e1 : (m.st = 7) = True := eq_true h7
    have e2 : (m.st == 7) = true := by simp [h7]
    have HX := hid hX
    clear hX h7
    go_enter Try.func20, Try.ntmps20
    go_wp2_with fail
    go_ret
    rw [HX.out]
    exact ⟨rfl, H0.out⟩
  · rw [if_neg h7] at hX
    have e1 : (m.st = 7) = False := eq_false h7
    have e2 : (m.st == 7) = false := by simp [h7]
    have HX := hid hX
    clear hX h7
    go_enter Try.func20, Try.ntmps20
    go_wp2_with fail
    refine (HI.out _).mono ?_
    rintro y w1 ⟨rfl, hbl⟩
    have H1 := hid (H0.out.later hbl)
    have HF1 := hid (HF.out.below hbl)
    have c0 := (hd13 H1.out.blk).st
    have c4 := (hd13 H1.out.blk).waits
    cases ho : okF f.e f.i f.r f.d
    · have HX := HX.out
      rw [if_pos ho] at HX
      have HX := hid HX
      go_wp2_with fail
      go_ret
      rw [HX.out]
      exact ⟨rfl, H1.out⟩
    · have HX := HX.out
      rw [if_neg (by simp [ho])] at HX
      cases hw : m.waits
      · rw [if_neg (by simp [hw])] at HX
        rw [hw] at c4
        have HX := hid HX
        have HW := hid hw
        clear hw
        go_wp2_with fail
        refine region_text (by kernel_rfl) (by kernel_rfl) (AskInv w g w.heap.size m f) ⟨by have := H1.out.drew; show At w _ g (askm m f false false); exact this, HF1.out.drew⟩ ?_
        refine t_pure (.pointer (some ⟨g, 0, none⟩)) (fun _ => rfl) (fun b γ W h => ⟨h.node, h.box⟩) (fun b γ W h _ => by go_simp) ?_
        refine t_pure (.pointer (some ⟨g, 0, none⟩)) (fun _ => rfl) (fun b γ W h => ⟨h.node, h.box⟩) (fun b γ W h _ => by go_simp) ?_
        refine t_pure (.agg #[.bool f.e, .int .u32 f.i, .bool f.r, .string f.d]) (fun _ => rfl) (fun b γ W h => ⟨h.node, h.box⟩) (fun b γ W h _ => ?_) ?_
        · have q0 := h.box.cell 0
          have q1 := h.box.cell 1
          have q2 := h.box.cell 2
          have q3 := h.box.cell 3
          simp only [fc, List.getElem?_cons_zero, List.getElem?_cons_succ] at q0 q1 q2 q3
          go_simp
        refine t_pure (.pointer (some ⟨g, 0, none⟩)) (fun _ => rfl) (fun b γ W h => ⟨h.node, h.box⟩) (fun b γ W h _ => by go_simp) ?_
        refine t_pure (.pointer (some ⟨g, 4, none⟩)) (fun _ => rfl) (fun b γ W h => ⟨h.node, h.box⟩) (fun b γ W h _ => by go_simp) ?_
        refine t_store (fun _ => rfl) (fun b γ W h hb hn hf => ?_) ?_
        · have hnode := h.node
          rw [hb] at hnode
          have q4 := (hd13 hnode.blk).waits
          have f4 := hnode.blk.frozen 4
          have hne : w.heap.size ≠ g := h.box.ne hnode.blk (by decide)
          refine ⟨W.setCell ⟨g, 4, none⟩ (.bool true), by go_simp, ?_, h.box.far (p := ⟨g, 4, none⟩) hne _⟩
          rw [up_at, up_of_ne (by decide)]
          exact hnode.set 4 (.bool true)
        refine t_pure (.pointer (some ⟨g, 0, none⟩)) (fun _ => rfl) (fun b γ W h => ⟨h.node, h.box⟩) (fun b γ W h _ => by go_simp) ?_
        refine t_pure (.pointer (some ⟨g, 5, none⟩)) (fun _ => rfl) (fun b γ W h => ⟨h.node, h.box⟩) (fun b γ W h _ => by go_simp) ?_
        refine t_store (fun _ => rfl) (fun b γ W h hb hn hf => ?_) ?_
        · have hnode := h.node
          rw [hb] at hnode
          have q5 := (hd13 hnode.blk).fe
          have q6 := (hd13 hnode.blk).fi
          have q7 := (hd13 hnode.blk).fr
          have q8 := (hd13 hnode.blk).fd
          have f5 := hnode.blk.frozen 5
          have f6 := hnode.blk.frozen 6
          have f7 := hnode.blk.frozen 7
          have f8 := hnode.blk.frozen 8
          have hne : w.heap.size ≠ g := h.box.ne hnode.blk (by decide)
          refine ⟨(((W.setCell ⟨g, 5, none⟩ (.bool f.e)).setCell ⟨g, 6, none⟩ (.int .u32 f.i)).setCell ⟨g, 7, none⟩ (.bool f.r)).setCell ⟨g, 8, none⟩ (.string f.d), by go_simp, ?_,
            (((h.box.far (p := ⟨g, 5, none⟩) hne _).far (p := ⟨g, 6, none⟩) hne _).far (p := ⟨g, 7, none⟩) hne _).far (p := ⟨g, 8, none⟩) hne _⟩
          rw [up_at, up_of_ne (by decide)]
          exact (((hnode.set 5 (.bool f.e)).set 6 (.int .u32 f.i)).set 7 (.bool f.r)).set 8 (.string f.d)
        refine t_end ?_
        intro bq gq w2 hall hS
        have hn := hS.node
        rw [hall 5 (by decide), hall 8 (by decide)] at hn
        have HN := hid hn
        clear hn hS hall
        go_wp2_with fail
        go_ret
        rw [HX.out]
        exact ⟨rfl, HN.out⟩
      · rw [if_pos hw] at HX
        rw [hw] at c4
        have HX := hid HX
        go_wp2_with fail
        go_ret
        rw [HX.out]
        exact ⟨rfl, H1.out⟩
theorem idx_bit (l : List Bool) (i : Nat) (h : i < l.length) (W : World) : (Instr.index 9 (.string (B l)) (.int .i64 i)).run Try.prog W = .ok (.int .u8 ((sg (l.getD i false)).toNat : Int)) W := by
  have h0 : (0 : Int) ≤ (i : Int) := Int.natCast_nonneg _
  have hx : (B l)[i]? = some (sg (l.getD i false)) := by
    have e : (B l)[i]? = (B l).data[i]? := rfl
    rw [e, ← Array.getElem?_toList, B_toList]
    simp [List.getD, h]
  simp only [Instr.index, asIntOf, Sem.run_bind, Sem.run_pure, Result.andThen_ok, run_underlying Try.underlying9, if_pos h0, Int.toNat_natCast, hx]
structure DrInv (w : World) (g : Nat) (m : M) (_b : Nat → Bool) (_γ : Nat → Nat) (W : World) : Prop where
  node : At w W g m
theorem at_drew {w W : World} {g : Nat} {m : M} (h : At w W g m) : At w W.drew g m := Here.drew h
set_option maxRecDepth 100000 in
set_option maxHeartbeats 3200000 in
theorem drive_calls (g : Nat) (m : M) (w : World) (hb : Blk w g MT (mc m)) (hr : Rd.Ok m.r) (hl : m.r.b.length ≤ 128) (hp : m.on = true → m.pos < m.bits.length) :
    Calls Try.prog 17 #[.pointer (some ⟨g, 0, none⟩)] w fun e w' => e = .returned (.int .u8 ((sg m.drive).toNat : Int)) ∧ At w w' g m := by
  obtain ⟨c0, c1, c2, c3, c4, c5, c6, c7, c8, c9, c10, c11, c12⟩ := hd13 hb
  have HI := hid (fun W => isPas_calls m.sent m.got W)
  have HA := hid (fun (W : World) (h : Blk W g MT (mc m)) => atAck_calls g m W h hl)
  have HR := hid (fun (W : World) (h : Blk W g MT (mc m)) => right_calls g 13 MT (mc m) m.r W h (mc_rd m hl) hr)
  have H0 := hid (show At w w g m from here_refl hb)
  obtain ⟨X, hX⟩ : ∃ X, X = m.drive := ⟨_, rfl⟩
  rw [← hX]
  unfold M.drive at hX
  clear c1 c5 c6 c7 c8 c11 hb
  by_cases h0 : m.st = 0
  · rw [if_pos h0] at hX
    have e1 : (m.st = 0) = True := eq_true h0
    have e2 : (m.st == 0) = true := by simp [h0]
    have HX := hid hX
    clear hX h0
    cases hw : m.waits
    all_goals
      rw [hw] at c4 HX
      go_enter Try.func17, Try.ntmps17
      go_wp2_with fail
      go_ret
      rw [HX.out]
      exact ⟨rfl, H0.out⟩
  rw [if_neg h0] at hX
  have e0 : (m.st = 0) = False := eq_false h0
  have e0' : (m.st == 0) = false := by simp [h0]
  clear h0
  by_cases h1 : m.st = 1
  · rw [if_pos h1] at hX
    have e1 : (m.st = 1) = True := eq_true h1
    have e2 : (m.st == 1) = true := by simp [h1]
    clear h1
    cases ho : m.on
    · rw [ho] at c9 hX
      rw [if_neg (by simp)] at hX
      have HX := hid hX
      clear hX hp
      cases hk : (m.r.en == 1)
      · rw [hk] at HX HA
        go_enter Try.func17, Try.ntmps17
        go_wp2_with fail
        refine (HA.out _ H0.out.blk).mono ?_
        rintro y w1 ⟨rfl, rfl⟩
        go_wp2_with fail
        go_ret
        rw [HX.out]
        exact ⟨rfl, H0.out⟩
      · rw [hk] at HX HA
        cases hk2 : m.r.right
        all_goals
          rw [hk2] at HX HR
          go_enter Try.func17, Try.ntmps17
          go_wp2_with fail
          refine (HA.out _ H0.out.blk).mono ?_
          rintro y w1 ⟨rfl, rfl⟩
          go_wp2_with fail
          refine (HR.out _ H0.out.blk).mono ?_
          rintro y w1 ⟨rfl, rfl⟩
          go_wp2_with fail
          go_ret
          rw [HX.out]
          exact ⟨rfl, at_drew H0.out⟩
    · rw [ho] at c9 hX
      rw [if_pos rfl] at hX
      have HX := hid hX
      have hpos := hp ho
      have hB := idx_bit m.bits m.pos hpos
      have HX := HX.out
      generalize m.bits.getD m.pos false = d at hB HX
      have HX := hid HX
      have HB := hid hB
      clear hB
      clear hX hp
      go_enter Try.func17, Try.ntmps17
      go_wp2_with fail
      refine region_text (by kernel_rfl) (by kernel_rfl) (DrInv w g m) ⟨at_drew H0.out⟩ ?_
      refine t_pure (.pointer (some ⟨g, 0, none⟩)) (fun _ => rfl) (fun b γ W h => ⟨h.node⟩) (fun b γ W h _ => by go_simp) ?_
      refine t_pure (.pointer (some ⟨g, 0, none⟩)) (fun _ => rfl) (fun b γ W h => ⟨h.node⟩) (fun b γ W h _ => by go_simp) ?_
      refine t_pure (.pointer (some ⟨g, 9, none⟩)) (fun _ => rfl) (fun b γ W h => ⟨h.node⟩) (fun b γ W h _ => by go_simp) ?_
      refine t_pure (.pointer (some ⟨g, 10, none⟩)) (fun _ => rfl) (fun b γ W h => ⟨h.node⟩) (fun b γ W h _ => by go_simp) ?_
      refine t_pure (.string (B m.bits)) (fun _ => rfl) (fun b γ W h => ⟨h.node⟩) (fun b γ W h _ => by have q := (hd13 h.node.blk).bits; go_simp) ?_
      refine t_pure (.pointer (some ⟨g, 0, none⟩)) (fun _ => rfl) (fun b γ W h => ⟨h.node⟩) (fun b γ W h _ => by go_simp) ?_
      refine t_pure (.pointer (some ⟨g, 0, none⟩)) (fun _ => rfl) (fun b γ W h => ⟨h.node⟩) (fun b γ W h _ => by go_simp) ?_
      refine t_pure (.pointer (some ⟨g, 9, none⟩)) (fun _ => rfl) (fun b γ W h => ⟨h.node⟩) (fun b γ W h _ => by go_simp) ?_
      refine t_pure (.pointer (some ⟨g, 12, none⟩)) (fun _ => rfl) (fun b γ W h => ⟨h.node⟩) (fun b γ W h _ => by go_simp) ?_
      refine t_pure (.int .i64 m.pos) (fun _ => rfl) (fun b γ W h => ⟨h.node⟩) (fun b γ W h _ => by have q := (hd13 h.node.blk).pos; go_simp) ?_
      refine t_pure (.int .u8 ((sg d).toNat : Int)) (fun _ => rfl) (fun b γ W h => ⟨h.node⟩) (fun b γ W h _ => by have q := HB.out W; go_simp) ?_
      refine t_pure (.int .u8 ((sg d).toNat : Int)) (fun _ => rfl) (fun b γ W h => ⟨h.node⟩) (fun b γ W h _ => by go_simp) ?_
      refine t_end ?_
      intro bq gq w2 hall hS
      have HN := hid hS.node
      clear hS hall HB
      simp only [Act.put, List.setIfInBounds_toArray, List.set_cons_zero, List.set_cons_succ]
      go_wp2_with fail
      go_ret
      rw [HX.out]
      exact ⟨rfl, HN.out⟩
  · rw [if_neg h1] at hX
    have e1 : (m.st = 1) = False := eq_false h1
    have e2 : (m.st == 1) = false := by simp [h1]
    clear h1
    by_cases h3 : m.st = 3
    · rw [if_pos h3] at hX
      have e3 : (m.st = 3) = True := eq_true h3
      have e4 : (m.st == 3) = true := by simp [h3]
      have HX := hid hX
      clear hX h3
      go_enter Try.func17, Try.ntmps17
      go_wp2_with fail
      refine (HI.out _).mono ?_
      rintro y w1 ⟨rfl, hbl⟩
      have H1 := hid (H0.out.later hbl)
      cases hi : isPas m.sent m.got
      all_goals
        rw [hi] at HX
        go_wp2_with fail
        go_ret
        rw [HX.out]
        exact ⟨rfl, H1.out⟩
    · rw [if_neg h3] at hX
      have e3 : (m.st = 3) = False := eq_false h3
      have e4 : (m.st == 3) = false := by simp [h3]
      have HX := hid hX
      clear hX h3
      go_enter Try.func17, Try.ntmps17
      go_wp2_with fail
      go_ret
      rw [HX.out]
      exact ⟨rfl, H0.out⟩
end Go.Proofs.Ytgmjofcbdimjgaa.MacW
