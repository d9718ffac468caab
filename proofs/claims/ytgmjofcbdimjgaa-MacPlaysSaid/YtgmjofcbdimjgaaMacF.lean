/- The walks of package mac: errors on the wire; a bit of another one's frame. -/
import Derived.Test.YtgmjofcbdimjgaaMacE
namespace Go.Proofs.Ytgmjofcbdimjgaa.MacW
set_option linter.unusedVariables false
set_option linter.unusedSimpArgs false
open Go Go.RowKit Go.Proofs.Ytgmjofcbdimjgaa.Lib Go.Proofs.Ytgmjofcbdimjgaa.Bits Go.Proofs.Ytgmjofcbdimjgaa.BitsW Go.Proofs.Ytgmjofcbdimjgaa.StuffW Go.Proofs.Ytgmjofcbdimjgaa.Frame Go.Proofs.Ytgmjofcbdimjgaa.FrameW Go.Proofs.Ytgmjofcbdimjgaa.Code Go.Proofs.Ytgmjofcbdimjgaa.CodeW Go.Proofs.Ytgmjofcbdimjgaa.Mac Go.Proofs.Ytgmjofcbdimjgaa.PrintMore
attribute [local go_sem] max2_int min2_int max_two min_two
def ev (x : Ev) : Value := .agg #[.int .i64 x.kind, .bool x.f.e, .int .u32 x.f.i, .bool x.f.r, .string x.f.d, .int .i64 x.err]
theorem box6 {W : World} {p : Nat} {x : Ev} (h : Blk W p 34 (ec x)) : W.cell? ⟨p, 0, none⟩ = some (.int .i64 x.kind) ∧ W.cell? ⟨p, 1, none⟩ = some (.bool x.f.e) ∧ W.cell? ⟨p, 2, none⟩ = some (.int .u32 x.f.i) ∧ W.cell? ⟨p, 3, none⟩ = some (.bool x.f.r) ∧
    W.cell? ⟨p, 4, none⟩ = some (.string x.f.d) ∧ W.cell? ⟨p, 5, none⟩ = some (.int .i64 x.err) := ⟨h.cell 0, h.cell 1, h.cell 2, h.cell 3, h.cell 4, h.cell 5⟩
theorem evs_in {W : World} {b b' : Nat} {v : Value} {L : List Ev} (h : Evs W b v L) (hb : b' ≤ b) : Evs W b' v L := by
  refine ⟨h.1, ?_⟩
  rcases h.2 with hn | ⟨g, cap, cur, h1, h2, rest⟩
  · exact .inl hn
  · exact .inr ⟨g, cap, cur, h1, Nat.le_trans hb h2, rest⟩
theorem evs_new {W : World} {base n : Nat} {L : List Ev} {cs : List Value} (hn : W.heap.size = n) (hc : cs = L.flatMap ec) (hb : base ≤ n) (h10 : L.length ≤ 10) : Evs (W.alloc (.cells cs.toArray 34)) base (.slice (some ⟨n, 0, none⟩) L.length L.length) L := by
  subst hn
  exact evs_blk (Blk.new W cs 34) hc hb h10
set_option maxRecDepth 100000 in
set_option maxHeartbeats 3200000 in
theorem flags_calls (g : Nat) (m : M) (x : Ev) (w : World) (hb : Blk w g MT (mc m)) : Calls Try.prog 73 #[.pointer (some ⟨g, 0, none⟩), ev x] w fun e w' =>
    ∃ v, e = .returned v ∧ At w w' g (m.flags x).1 ∧ Evs w' w.heap.size v (m.flags x).2 := by
  have hA := hb.alloc (.cells #[.int .i64 x.kind, .bool x.f.e, .int .u32 x.f.i, .bool x.f.r, .string x.f.d, .int .i64 x.err] 34)
  obtain ⟨_, _, c2, c3, _, _, _, _, _, _, _, _, _⟩ := hd13 hA
  have hF : Blk (w.alloc (.cells #[.int .i64 x.kind, .bool x.f.e, .int .u32 x.f.i, .bool x.f.r, .string x.f.d, .int .i64 x.err] 34)) w.heap.size 34 (ec x) := Blk.new w (ec x) 34
  have H0 := hid (show At w _ g m from ⟨hA, grown_alloc (grown_refl w (some g)) _⟩)
  have HF := hid hF
  have HI := hid (fun W => isOff_calls m.sent m.got W)
  obtain ⟨X, hX⟩ : ∃ X, X = m.flags x := ⟨_, rfl⟩
  rw [← hX]
  unfold M.flags at hX
  have hne : w.heap.size ≠ g := hF.ne hA (by decide)
  have HX := hid hX
  clear hA hF hb hX
  unfold ev
  go_enter Try.func73, Try.ntmps73
  go_wp2_with fail
  refine (HI.out _).mono ?_
  rintro y w1 ⟨rfl, hbl⟩
  have h1 := H0.out.later hbl
  have hf1 := HF.out.below hbl
  have HS := hid h1.grown.size
  clear c2 c3 H0 HF HI hbl
  obtain ⟨c0, c1, _, _, _, _, _, _, _, _, _, _, _⟩ := hd13 h1.blk
  have f0 := h1.blk.frozen 0
  have f1 := h1.blk.frozen 1
  cases ho : isOff m.sent
  · have hX := HX.out
    rw [if_neg (by simp [ho])] at hX
    have HX := hid hX
    have h2 := (h1.set 0 (.int .i64 3)).set 1 (.int .i64 6)
    obtain ⟨q0, q1, q2, q3, q4, q5⟩ := box6 ((hf1.far (p := ⟨g, 0, none⟩) hne (.int .i64 3)).far (p := ⟨g, 1, none⟩) hne (.int .i64 6))
    have H2 := hid h2
    clear h1 hf1 h2 hX hne
    go_wp2_with fail
    go_ret
    rw [HX.out]
    refine ⟨_, rfl, ⟨H2.out.blk.alloc _, grown_alloc H2.out.grown _⟩, ?_⟩
    exact evs_new (L := [x]) (cs := ec x) (by simp) (List.append_nil _).symm HS.out (Nat.le_of_ble_eq_true rfl)
  · have hX := HX.out
    rw [if_pos ho] at hX
    have HX := hid hX
    have h2 := h1.set 0 (.int .i64 7)
    obtain ⟨q0, q1, q2, q3, q4, q5⟩ := box6 (hf1.far (p := ⟨g, 0, none⟩) hne (.int .i64 7))
    have H2 := hid h2
    clear h1 hf1 h2 hX hne
    go_wp2_with fail
    go_ret
    rw [HX.out]
    refine ⟨_, rfl, ⟨H2.out.blk.alloc _, grown_alloc H2.out.grown _⟩, ?_⟩
    exact evs_new (L := [x, ⟨7, Fm.zero, 0⟩]) (cs := ec x ++ ec ⟨7, Fm.zero, 0⟩) (by simp) rfl HS.out (Nat.le_of_ble_eq_true rfl)
set_option maxRecDepth 100000 in
set_option maxHeartbeats 3200000 in
theorem fails_calls (g : Nat) (m : M) (f : Fm) (x : Int) (w : World) (hb : Blk w g MT (mc m)) : Calls Try.prog 70 #[.pointer (some ⟨g, 0, none⟩), fv f, .int .i64 x] w fun e w' =>
    ∃ v, e = .returned v ∧ At w w' g (m.fails f x).1 ∧ Evs w' w.heap.size v (m.fails f x).2 := by
  have hA := hb.alloc (.cells #[.bool f.e, .int .u32 f.i, .bool f.r, .string f.d] 24)
  have hF : Blk (w.alloc (.cells #[.bool f.e, .int .u32 f.i, .bool f.r, .string f.d] 24)) w.heap.size 24 (fc f) := Blk.new w (fc f) 24
  have H0 := hid (show At w _ g m from ⟨hA, grown_alloc (grown_refl w (some g)) _⟩)
  have HF := hid hF
  have hne : w.heap.size ≠ g := hF.ne hA (by decide)
  have HD := hid (fun W h => done_calls g m W h)
  have HI := hid (fun W => sent_calls m.sent m.got false W)
  have HL := hid (fun W h => flags_calls g { m.done with sent := if cOk m.sent m.got then sentC m.sent false else m.sent } ⟨4, f, x⟩ W h)
  have hX : m.fails f x = M.flags { m.done with sent := if cOk m.sent m.got then sentC m.sent false else m.sent } ⟨4, f, x⟩ := rfl
  generalize m.fails f x = X at hX
  generalize hM : ({ m.done with sent := if cOk m.sent m.got then sentC m.sent false else m.sent } : M) = m4 at hX HL
  have HM := hid hM
  have HX := hid hX
  clear hX
  clear hA hF hb hM
  unfold fv
  go_enter Try.func70, Try.ntmps70
  go_wp2_with fail
  refine (HD.out _ H0.out.blk).mono ?_
  rintro y w1 ⟨rfl, hw1⟩
  have hf1 := HF.out.grown hw1.grown (by simpa using hne)
  have h1 := at_keep H0.out hw1
  have HF := hid hf1
  have H1 := hid h1
  obtain ⟨c0, c1, c2, c3, _, _, _, _, _, _, _, _, _⟩ := hd13 h1.blk
  have c2 : w1.cell? ⟨g, 2, none⟩ = some (.int .i64 m.sent) := c2
  have c3 : w1.cell? ⟨g, 3, none⟩ = some (.int .i64 m.got) := c3
  clear H0 HD hw1 hf1 h1 c0 c1
  go_wp2_with fail
  refine (HI.out _).mono ?_
  rintro y w2 ⟨rfl, hbl⟩
  have h2 := H1.out.later hbl
  have hf2 := HF.out.below hbl
  clear c2 c3 H1 HF HI hbl
  obtain ⟨_, _, c2, c3, _, _, _, _, _, _, _, _, _⟩ := hd13 h2.blk
  have f2 := h2.blk.frozen 2
  have f3 := h2.blk.frozen 3
  have h3 := (h2.set 2 (.int .i64 (sentV m.sent m.got false))).set 3 (.int .i64 m.got)
  have h4 : At w ((w2.setCell ⟨g, 2, none⟩ (.int .i64 (sentV m.sent m.got false))).setCell ⟨g, 3, none⟩ (.int .i64 m.got)) g m4 := by rw [← HM.out]; exact h3
  have H4 := hid h4
  have hf4 := (hf2.far (p := ⟨g, 2, none⟩) hne (.int .i64 (sentV m.sent m.got false))).far (p := ⟨g, 3, none⟩) hne (.int .i64 m.got)
  have q0 := hf4.cell 0
  have q1 := hf4.cell 1
  have q2 := hf4.cell 2
  have q3 := hf4.cell 3
  simp only [fc, List.getElem?_cons_zero, List.getElem?_cons_succ] at q0 q1 q2 q3
  clear h2 hf2 h3 h4 hf4 hne
  go_wp2_with fail
  refine (HL.out _ H4.out.blk).mono ?_
  rintro y w5 ⟨v, rfl, hw5, hev⟩
  have H5 := hid (at_keep H4.out hw5)
  have HE := hid (evs_in hev H4.out.grown.size)
  clear H4 hw5 hev HM q0 q1 q2 q3 c2 c3 f2 f3
  go_wp2_with fail
  go_ret
  rw [HX.out]
  exact ⟨_, rfl, H5.out, HE.out⟩
end Go.Proofs.Ytgmjofcbdimjgaa.MacW
