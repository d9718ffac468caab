/- The walks of package mac: a node in memory; the small calls. -/
import Derived.Test.YtpkpnaedacefaaaGreatMacA
import Derived.Deep.MidRow
import Derived.Test.YtpkpnaedacefaaaGreatFrameC
namespace Go.Proofs.YtpkpnaedacefaaaGreat.MacW
set_option linter.unusedVariables false
set_option linter.unusedSimpArgs false
open Go Go.RowKit Go.Proofs.YtpkpnaedacefaaaGreat.Lib Go.Proofs.YtpkpnaedacefaaaGreat.Bits Go.Proofs.YtpkpnaedacefaaaGreat.BitsW Go.Proofs.YtpkpnaedacefaaaGreat.StuffW Go.Proofs.YtpkpnaedacefaaaGreat.Frame Go.Proofs.YtpkpnaedacefaaaGreat.FrameW Go.Proofs.YtpkpnaedacefaaaGreat.Code Go.Proofs.YtpkpnaedacefaaaGreat.CodeW Go.Proofs.YtpkpnaedacefaaaGreat.Mac Go.Proofs.YtpkpnaedacefaaaGreat.PrintMore
attribute [local go_sem] max2_int min2_int max_two min_two
/-- A frame's cells, an event's, a reader's, a node's. -/
def fc (f : Fm) : List Value := [.bool f.e, .int .u32 f.i, .bool f.r, .string f.d]
def fv (f : Fm) : Value := .agg #[.bool f.e, .int .u32 f.i, .bool f.r, .string f.d]
def ec (x : Ev) : List Value := [.int .i64 x.kind, .bool x.f.e, .int .u32 x.f.i, .bool x.f.r, .string x.f.d, .int .i64 x.err]
def rc (r : Rd) : List Value := [.int .u8 (if r.rn = 0 then 0 else ((sg r.rb).toNat : Int)), .int .i64 r.rn] ++ (arrOf r.b ++ [.int .i64 r.b.length, .int .i64 r.need, .int .u16 r.sum, .int .i64 r.en, .bool r.laid])
def hc (m : M) : List Value := [.int .i64 m.st, .int .i64 m.left, .int .i64 m.sent, .int .i64 m.got, .bool m.waits, .bool m.f.e, .int .u32 m.f.i, .bool m.f.r, .string m.f.d, .bool m.on, .string (B m.bits), .int .i64 m.arb, .int .i64 m.pos]
def mc (m : M) : List Value := hc m ++ rc m.r
theorem rc_length {r : Rd} (h : r.b.length ≤ 128) : (rc r).length = 135 := by
  have := arrOf_length r.b h
  simp [rc, this]
theorem mc_rd (m : M) (h : m.r.b.length ≤ 128) : IsRd (mc m) 13 m.r := by
  refine ⟨arrOf_length m.r.b h, hc m, [], ?_, rfl⟩
  simp [mc, rc]
theorem mc_get (m : M) : (mc m)[0]? = some (.int .i64 m.st) ∧ (mc m)[1]? = some (.int .i64 m.left) ∧ (mc m)[2]? = some (.int .i64 m.sent) ∧ (mc m)[3]? = some (.int .i64 m.got) ∧ (mc m)[4]? = some (.bool m.waits) ∧
    (mc m)[5]? = some (.bool m.f.e) ∧ (mc m)[6]? = some (.int .u32 m.f.i) ∧ (mc m)[7]? = some (.bool m.f.r) ∧ (mc m)[8]? = some (.string m.f.d) ∧
    (mc m)[9]? = some (.bool m.on) ∧ (mc m)[10]? = some (.string (B m.bits)) ∧ (mc m)[11]? = some (.int .i64 m.arb) ∧ (mc m)[12]? = some (.int .i64 m.pos) := ⟨rfl, rfl, rfl, rfl, rfl, rfl, rfl, rfl, rfl, rfl, rfl, rfl, rfl⟩
/-- What is behind a reader's call. -/
theorem mc_post {m : M} {cs : List Value} {r : Rd} (h : m.r.b.length ≤ 128) (hr : IsRd cs 13 r) (hs : Same (mc m) cs 13) : cs = mc { m with r := r } := by
  obtain ⟨hl, pre, post, rfl, hp⟩ := hr
  have hmc : (mc m).length = 148 := by simp [mc, hc, rc_length h]
  have hpre : pre = hc m := by
    apply List.ext_getElem?
    intro i
    by_cases hi : i < 13
    · have := hs i (.inl hi)
      rw [List.getElem?_append_left (by omega)] at this
      rw [this, mc, List.getElem?_append_left (by show i < 13; exact hi)]
    · rw [List.getElem?_eq_none (by omega), List.getElem?_eq_none (by show 13 ≤ i; omega)]
  have hpost : post = [] := by
    apply List.eq_nil_iff_length_eq_zero.2
    have := hs 148 (.inr (by omega))
    rw [List.getElem?_eq_none (l := mc m) (by omega)] at this
    have h2 := List.getElem?_eq_none_iff.1 this
    simp [hl, hp] at h2
    omega
  subst hpre hpost
  simp [mc, rc, hc]
abbrev MT : TypeId := 84
/-- A node in memory, behind some steps. -/
abbrev At (w W : World) (g : Nat) (m : M) : Prop := Here w W g MT (mc m)
/-- The cells of a node's head, as they are read. -/
structure Hd13 (W : World) (g : Nat) (m : M) : Prop where
  st : W.cell? ⟨g, 0, none⟩ = some (.int .i64 m.st)
  left : W.cell? ⟨g, 1, none⟩ = some (.int .i64 m.left)
  sent : W.cell? ⟨g, 2, none⟩ = some (.int .i64 m.sent)
  got : W.cell? ⟨g, 3, none⟩ = some (.int .i64 m.got)
  waits : W.cell? ⟨g, 4, none⟩ = some (.bool m.waits)
  fe : W.cell? ⟨g, 5, none⟩ = some (.bool m.f.e)
  fi : W.cell? ⟨g, 6, none⟩ = some (.int .u32 m.f.i)
  fr : W.cell? ⟨g, 7, none⟩ = some (.bool m.f.r)
  fd : W.cell? ⟨g, 8, none⟩ = some (.string m.f.d)
  on : W.cell? ⟨g, 9, none⟩ = some (.bool m.on)
  bits : W.cell? ⟨g, 10, none⟩ = some (.string (B m.bits))
  arb : W.cell? ⟨g, 11, none⟩ = some (.int .i64 m.arb)
  pos : W.cell? ⟨g, 12, none⟩ = some (.int .i64 m.pos)
theorem hd13 {W : World} {g : Nat} {m : M} (h : Blk W g MT (mc m)) : Hd13 W g m :=
  ⟨h.cell 0, h.cell 1, h.cell 2, h.cell 3, h.cell 4, h.cell 5, h.cell 6, h.cell 7, h.cell 8, h.cell 9, h.cell 10, h.cell 11, h.cell 12⟩
theorem Here.keep {w W W' : World} {g : Nat} {T : TypeId} {cs cs' : List Value} (h : Here w W g T cs) (hb : Here W W' g T cs') : Here w W' g T cs' := ⟨hb.blk, grown_trans h.grown hb.grown⟩
theorem here_refl {w : World} {g : Nat} {T : TypeId} {cs : List Value} (h : Blk w g T cs) : Here w w g T cs := ⟨h, grown_refl w (some g)⟩
set_option maxRecDepth 100000 in
set_option maxHeartbeats 3200000 in
theorem pauses_calls (g : Nat) (m : M) (w : World) (hb : Blk w g MT (mc m)) : Calls Tryz.prog 42 #[.pointer (some ⟨g, 0, none⟩)] w fun e w' => e = .returned (.tuple #[]) ∧ At w w' g m.pauses := by
  have c0 := hb.cell 0
  have c1 := hb.cell 1
  have f0 := hb.frozen 0
  have f1 := hb.frozen 1
  rw [show (mc m)[0]? = some (.int .i64 m.st) from rfl] at c0
  rw [show (mc m)[1]? = some (.int .i64 m.left) from rfl] at c1
  have HH := hid (show At w _ g m.pauses from ((here_refl hb).set 0 (.int .i64 6)).set 1 (.int .i64 3))
  go_enter Tryz.func42, Tryz.ntmps42
  go_wp2_with fail
  go_end0
  exact ⟨rfl, HH.out⟩
set_option maxRecDepth 100000 in
set_option maxHeartbeats 3200000 in
theorem done_calls (g : Nat) (m : M) (w : World) (hb : Blk w g MT (mc m)) : Calls Tryz.prog 58 #[.pointer (some ⟨g, 0, none⟩)] w fun e w' => e = .returned (.tuple #[]) ∧ At w w' g m.done := by
  obtain ⟨c0, c1, c2, c3, c4, c5, c6, c7, c8, c9, c10, c11, c12⟩ := hd13 hb
  have f4 := hb.frozen 4
  have f5 := hb.frozen 5
  have f6 := hb.frozen 6
  have f7 := hb.frozen 7
  have f8 := hb.frozen 8
  have f9 := hb.frozen 9
  have f10 := hb.frozen 10
  have f11 := hb.frozen 11
  have f12 := hb.frozen 12
  have HH := hid (show At w _ g m.done from (((((((((here_refl hb).set 4 (.bool false)).set 5 (.bool false)).set 6 (.int .u32 0)).set 7 (.bool false)).set 8 (.string ⟨#[]⟩)).set 9 (.bool false)).set 10 (.string ⟨#[]⟩)).set 11 (.int .i64 0)).set 12 (.int .i64 0))
  go_enter Tryz.func58, Tryz.ntmps58
  go_wp2_with fail
  go_end0
  exact ⟨rfl, HH.out⟩
set_option maxRecDepth 100000 in
set_option maxHeartbeats 3200000 in
theorem counted_calls (g : Nat) (m : M) (s l : Int) (w : World) (hb : Blk w g MT (mc m)) (h0 : -1000 ≤ m.left) (h1 : m.left ≤ 1000) :
    Calls Tryz.prog 43 #[.pointer (some ⟨g, 0, none⟩), .int .i64 s, .int .i64 l] w fun e w' => e = .returned (.tuple #[]) ∧ At w w' g (m.counted s l) := by
  obtain ⟨c0, c1, c2, c3, c4, c5, c6, c7, c8, c9, c10, c11, c12⟩ := hd13 hb
  have f0 := hb.frozen 0
  have f1 := hb.frozen 1
  have H1 := (here_refl hb).set 1 (.int .i64 (m.left - 1))
  have d0 := H1.blk.cell 0
  have d1 := H1.blk.cell 1
  rw [show ((mc m).set 1 (.int .i64 (m.left - 1)))[0]? = some (.int .i64 m.st) from rfl] at d0
  rw [show ((mc m).set 1 (.int .i64 (m.left - 1)))[1]? = some (.int .i64 (m.left - 1)) from rfl] at d1
  obtain ⟨X, hX⟩ : ∃ X, X = m.counted s l := ⟨_, rfl⟩
  rw [← hX]
  unfold M.counted at hX
  have ew : IntKind.i64.wrap (m.left - 1) = m.left - 1 := by rw [IntKind.wrap_i64]; omega
  by_cases hle : m.left - 1 ≤ 0
  · rw [if_pos hle] at hX
    have e1 : (m.left - 1 ≤ 0) = True := eq_true hle
    have e2 : decide (m.left - 1 ≤ 0) = true := decide_eq_true hle
    have HH := hid (show At w _ g { m with st := s, left := l } from (H1.set 0 (.int .i64 s)).set 1 (.int .i64 l))
    have HX := hid hX
    clear H1 hX
    go_enter Tryz.func43, Tryz.ntmps43
    go_wp2_with fail
    go_end0
    rw [HX.out]
    exact ⟨rfl, HH.out⟩
  · rw [if_neg hle] at hX
    have e1 : (m.left - 1 ≤ 0) = False := eq_false hle
    have e2 : decide (m.left - 1 ≤ 0) = false := decide_eq_false hle
    have HH := hid (show At w _ g { m with left := m.left - 1 } from H1)
    have HX := hid hX
    clear H1 hX
    go_enter Tryz.func43, Tryz.ntmps43
    go_wp2_with fail
    go_end0
    rw [HX.out]
    exact ⟨rfl, HH.out⟩
set_option maxRecDepth 100000 in
set_option maxHeartbeats 3200000 in
theorem counts_calls (g : Nat) (m : M) (w : World) (hb : Blk w g MT (mc m)) : Calls Tryz.prog 15 #[.pointer (some ⟨g, 0, none⟩)] w fun e w' => e = .returned (.agg #[.int .i64 m.sent, .int .i64 m.got]) ∧ Below w.heap.size w w' := by
  obtain ⟨c0, c1, c2, c3, c4, c5, c6, c7, c8, c9, c10, c11, c12⟩ := hd13 hb
  have hA := hb.alloc (.cells #[.int .i64 0, .int .i64 0] 47)
  have a2 := hA.cell 2
  have a3 := hA.cell 3
  rw [show (mc m)[2]? = some (.int .i64 m.sent) from rfl] at a2
  rw [show (mc m)[3]? = some (.int .i64 m.got) from rfl] at a3
  have h3 := Blk.new w [.int .i64 m.sent, .int .i64 m.got] 47
  have hC := (Below.refl w.heap.size w).alloc (Nat.le_refl _) (.cells #[.int .i64 m.sent, .int .i64 m.got] 47)
  have q0 := h3.cell 0
  have q1 := h3.cell 1
  simp only [List.getElem?_cons_zero, List.getElem?_cons_succ] at q0 q1
  have HC := hid hC
  clear hC hA
  go_enter Tryz.func15, Tryz.ntmps15
  go_wp2_with fail
  refine bodyPost_ret (v := .agg #[.int .i64 m.sent, .int .i64 m.got]) (by simp [results, Tryz.results15, go_sem, q0, q1]) rfl ⟨rfl, HC.out⟩
theorem atAck_calls (g : Nat) (m : M) (w : World) (hb : Blk w g MT (mc m)) (hl : m.r.b.length ≤ 128) : Calls Tryz.prog 35 #[.pointer (some ⟨g, 13, none⟩)] w fun e w' => e = .returned (.bool (m.r.en == 1)) ∧ w' = w := by
  obtain ⟨_, _, _, _, _, g5, _⟩ := IsRaw.get (mc_rd m hl)
  have c5 := (hb.cell (13 + 133)).trans g5
  simp only [Nat.reduceAdd] at c5
  have e1 : ((m.r.en : Int) == 1) = (m.r.en == 1) := by rw [Bool.eq_iff_iff]; simp only [beq_iff_eq]; omega
  go_enter Tryz.func35, Tryz.ntmps35
  go_wp2_with fail
  go_ret
  exact ⟨by rw [← e1]; rfl, rfl⟩
end Go.Proofs.YtpkpnaedacefaaaGreat.MacW


/- The walks of package mac: a frame is asked for; the bit that is driven; a new node, a copy. -/
namespace Go.Proofs.YtpkpnaedacefaaaGreat.MacW
set_option linter.unusedVariables false
set_option linter.unusedSimpArgs false
open Go Go.RowKit Go.Proofs.YtpkpnaedacefaaaGreat.Lib Go.Proofs.YtpkpnaedacefaaaGreat.Bits Go.Proofs.YtpkpnaedacefaaaGreat.BitsW Go.Proofs.YtpkpnaedacefaaaGreat.StuffW Go.Proofs.YtpkpnaedacefaaaGreat.Frame Go.Proofs.YtpkpnaedacefaaaGreat.FrameW Go.Proofs.YtpkpnaedacefaaaGreat.Code Go.Proofs.YtpkpnaedacefaaaGreat.CodeW Go.Proofs.YtpkpnaedacefaaaGreat.Mac Go.Proofs.YtpkpnaedacefaaaGreat.PrintMore
attribute [local go_sem] max2_int min2_int max_two min_two
def askm (m : M) (f : Fm) (x y : Bool) : M := { m with waits := if x then true else m.waits, f := if y then f else m.f }
/-- The region in which a frame is laid down. -/
structure AskInv (w : World) (g p : Nat) (m : M) (f : Fm) (b : Nat → Bool) (_γ : Nat → Nat) (W : World) : Prop where
  node : At w W g (askm m f (b 5) (b 8))
  box : Blk W p 35 (fc f)
set_option maxRecDepth 100000 in
set_option maxHeartbeats 3200000 in
theorem ask_calls (g : Nat) (m : M) (f : Fm) (w : World) (hb : Blk w g MT (mc m)) : Calls Tryz.prog 24 #[.pointer (some ⟨g, 0, none⟩), fv f] w fun e w' => e = .returned (.int .i64 (m.ask f).2) ∧ At w w' g (m.ask f).1 := by
  have hA := hb.alloc (.cells #[.bool f.e, .int .u32 f.i, .bool f.r, .string f.d] 35)
  obtain ⟨c0, c1, c2, c3, c4, c5, c6, c7, c8, c9, c10, c11, c12⟩ := hd13 hA
  have hF : Blk (w.alloc (.cells #[.bool f.e, .int .u32 f.i, .bool f.r, .string f.d] 35)) w.heap.size 35 (fc f) := Blk.new w (fc f) 35
  have a0 := hF.cell 0
  have a1 := hF.cell 1
  have a2 := hF.cell 2
  have a3 := hF.cell 3
  simp only [fc, List.getElem?_cons_zero, List.getElem?_cons_succ] at a0 a1 a2 a3
  have H0 := hid (show At w _ g m from ⟨hA, grown_alloc (grown_refl w (some g)) _⟩)
  have HF := hid hF
  have HI := hid (fun W => frame_is f.e f.i f.r f.d W)
  obtain ⟨X, hX⟩ : ∃ X, X = m.ask f := ⟨_, rfl⟩
  rw [← hX]
  unfold M.ask Fm.ok at hX
  clear hA hb hF c1 c2 c3 c5 c6 c7 c8 c9 c10 c11 c12
  unfold fv
  by_cases h7 : m.st = 7
  · rw [if_pos h7] at hX
    have e1 : (m.st = 7) = True := eq_true h7
    have e2 : (m.st == 7) = true := by simp [h7]
    have HX := hid hX
    clear hX h7
    go_enter Tryz.func24, Tryz.ntmps24
    go_wp2_with fail
    go_ret
    rw [HX.out]
    exact ⟨rfl, H0.out⟩
  · rw [if_neg h7] at hX
    have e1 : (m.st = 7) = False := eq_false h7
    have e2 : (m.st == 7) = false := by simp [h7]
    have HX := hid hX
    clear hX h7
    go_enter Tryz.func24, Tryz.ntmps24
    go_wp2_with fail
    refine (HI.out _).mono ?_
    rintro y w1 ⟨rfl, hbl⟩
    have H1 := hid (H0.out.later hbl)
    have HF1 := hid (HF.out.below hbl)
    have c0 := (hd13 H1.out.blk).st
    have c4 := (hd13 H1.out.blk).waits
    cases ho : okF f.e f.i f.r f.d
    · have HX := HX.out
      rw [if_pos ho] at HX
      have HX := hid HX
      go_wp2_with fail
      go_ret
      rw [HX.out]
      exact ⟨rfl, H1.out⟩
    · have HX := HX.out
      rw [if_neg (by simp [ho])] at HX
      cases hw : m.waits
      · rw [if_neg (by simp [hw])] at HX
        rw [hw] at c4
        have HX := hid HX
        have HW := hid hw
        clear hw
        go_wp2_with fail
        refine region_text (by kernel_rfl) (by kernel_rfl) (AskInv w g w.heap.size m f) ⟨by have := H1.out.drew; show At w _ g (askm m f false false); exact this, HF1.out.drew⟩ ?_
        refine t_pure (.pointer (some ⟨g, 0, none⟩)) (fun _ => rfl) (fun b γ W h => ⟨h.node, h.box⟩) (fun b γ W h _ => by go_simp) ?_
        refine t_pure (.pointer (some ⟨g, 0, none⟩)) (fun _ => rfl) (fun b γ W h => ⟨h.node, h.box⟩) (fun b γ W h _ => by go_simp) ?_
        refine t_pure (.agg #[.bool f.e, .int .u32 f.i, .bool f.r, .string f.d]) (fun _ => rfl) (fun b γ W h => ⟨h.node, h.box⟩) (fun b γ W h _ => ?_) ?_
        · have q0 := h.box.cell 0
          have q1 := h.box.cell 1
          have q2 := h.box.cell 2
          have q3 := h.box.cell 3
          simp only [fc, List.getElem?_cons_zero, List.getElem?_cons_succ] at q0 q1 q2 q3
          go_simp
        refine t_pure (.pointer (some ⟨g, 0, none⟩)) (fun _ => rfl) (fun b γ W h => ⟨h.node, h.box⟩) (fun b γ W h _ => by go_simp) ?_
        refine t_pure (.pointer (some ⟨g, 4, none⟩)) (fun _ => rfl) (fun b γ W h => ⟨h.node, h.box⟩) (fun b γ W h _ => by go_simp) ?_
        refine t_store (fun _ => rfl) (fun b γ W h hb hn hf => ?_) ?_
        · have hnode := h.node
          rw [hb] at hnode
          have q4 := (hd13 hnode.blk).waits
          have f4 := hnode.blk.frozen 4
          have hne : w.heap.size ≠ g := h.box.ne hnode.blk (by decide)
          refine ⟨W.setCell ⟨g, 4, none⟩ (.bool true), by go_simp, ?_, h.box.far (p := ⟨g, 4, none⟩) hne _⟩
          rw [up_at, up_of_ne (by decide)]
          exact hnode.set 4 (.bool true)
        refine t_pure (.pointer (some ⟨g, 0, none⟩)) (fun _ => rfl) (fun b γ W h => ⟨h.node, h.box⟩) (fun b γ W h _ => by go_simp) ?_
        refine t_pure (.pointer (some ⟨g, 5, none⟩)) (fun _ => rfl) (fun b γ W h => ⟨h.node, h.box⟩) (fun b γ W h _ => by go_simp) ?_
        refine t_store (fun _ => rfl) (fun b γ W h hb hn hf => ?_) ?_
        · have hnode := h.node
          rw [hb] at hnode
          have q5 := (hd13 hnode.blk).fe
          have q6 := (hd13 hnode.blk).fi
          have q7 := (hd13 hnode.blk).fr
          have q8 := (hd13 hnode.blk).fd
          have f5 := hnode.blk.frozen 5
          have f6 := hnode.blk.frozen 6
          have f7 := hnode.blk.frozen 7
          have f8 := hnode.blk.frozen 8
          have hne : w.heap.size ≠ g := h.box.ne hnode.blk (by decide)
          refine ⟨(((W.setCell ⟨g, 5, none⟩ (.bool f.e)).setCell ⟨g, 6, none⟩ (.int .u32 f.i)).setCell ⟨g, 7, none⟩ (.bool f.r)).setCell ⟨g, 8, none⟩ (.string f.d), by go_simp, ?_,
            (((h.box.far (p := ⟨g, 5, none⟩) hne _).far (p := ⟨g, 6, none⟩) hne _).far (p := ⟨g, 7, none⟩) hne _).far (p := ⟨g, 8, none⟩) hne _⟩
          rw [up_at, up_of_ne (by decide)]
          exact (((hnode.set 5 (.bool f.e)).set 6 (.int .u32 f.i)).set 7 (.bool f.r)).set 8 (.string f.d)
        refine t_end ?_
        intro bq gq w2 hall hS
        have hn := hS.node
        rw [hall 5 (by decide), hall 8 (by decide)] at hn
        have HN := hid hn
        clear hn hS hall
        go_wp2_with fail
        go_ret
        rw [HX.out]
        exact ⟨rfl, HN.out⟩
      · rw [if_pos hw] at HX
        rw [hw] at c4
        have HX := hid HX
        go_wp2_with fail
        go_ret
        rw [HX.out]
        exact ⟨rfl, H1.out⟩
theorem idx_bit (l : List Bool) (i : Nat) (h : i < l.length) (W : World) : (Instr.index 9 (.string (B l)) (.int .i64 i)).run Tryz.prog W = .ok (.int .u8 ((sg (l.getD i false)).toNat : Int)) W := by
  have h0 : (0 : Int) ≤ (i : Int) := Int.natCast_nonneg _
  have hx : (B l)[i]? = some (sg (l.getD i false)) := by
    have e : (B l)[i]? = (B l).data[i]? := rfl
    rw [e, ← Array.getElem?_toList, B_toList]
    simp [List.getD, h]
  simp only [Instr.index, asIntOf, Sem.run_bind, Sem.run_pure, Result.andThen_ok, run_underlying Tryz.underlying9, if_pos h0, Int.toNat_natCast, hx]
structure DrInv (w : World) (g : Nat) (m : M) (_b : Nat → Bool) (_γ : Nat → Nat) (W : World) : Prop where
  node : At w W g m
theorem at_drew {w W : World} {g : Nat} {m : M} (h : At w W g m) : At w W.drew g m := Here.drew h
set_option maxRecDepth 100000 in
set_option maxHeartbeats 3200000 in
theorem drive_calls (g : Nat) (m : M) (w : World) (hb : Blk w g MT (mc m)) (hr : Rd.Ok m.r) (hl : m.r.b.length ≤ 128) (hp : m.on = true → m.pos < m.bits.length) :
    Calls Tryz.prog 26 #[.pointer (some ⟨g, 0, none⟩)] w fun e w' => e = .returned (.int .u8 ((sg m.drive).toNat : Int)) ∧ At w w' g m := by
  obtain ⟨c0, c1, c2, c3, c4, c5, c6, c7, c8, c9, c10, c11, c12⟩ := hd13 hb
  have HI := hid (fun W => isPas_calls m.sent m.got W)
  have HA := hid (fun (W : World) (h : Blk W g MT (mc m)) => atAck_calls g m W h hl)
  have HR := hid (fun (W : World) (h : Blk W g MT (mc m)) => right_calls g 13 MT (mc m) m.r W h (mc_rd m hl) hr)
  have H0 := hid (show At w w g m from here_refl hb)
  obtain ⟨X, hX⟩ : ∃ X, X = m.drive := ⟨_, rfl⟩
  rw [← hX]
  unfold M.drive at hX
  clear c1 c5 c6 c7 c8 c11 hb
  by_cases h0 : m.st = 0
  · rw [if_pos h0] at hX
    have e1 : (m.st = 0) = True := eq_true h0
    have e2 : (m.st == 0) = true := by simp [h0]
    have HX := hid hX
    clear hX h0
    cases hw : m.waits
    all_goals
      rw [hw] at c4 HX
      go_enter Tryz.func26, Tryz.ntmps26
      go_wp2_with fail
      go_ret
      rw [HX.out]
      exact ⟨rfl, H0.out⟩
  rw [if_neg h0] at hX
  have e0 : (m.st = 0) = False := eq_false h0
  have e0' : (m.st == 0) = false := by simp [h0]
  clear h0
  by_cases h1 : m.st = 1
  · rw [if_pos h1] at hX
    have e1 : (m.st = 1) = True := eq_true h1
    have e2 : (m.st == 1) = true := by simp [h1]
    clear h1
    cases ho : m.on
    · rw [ho] at c9 hX
      rw [if_neg (by simp)] at hX
      have HX := hid hX
      clear hX hp
      cases hk : (m.r.en == 1)
      · rw [hk] at HX HA
        go_enter Tryz.func26, Tryz.ntmps26
        go_wp2_with fail
        refine (HA.out _ H0.out.blk).mono ?_
        rintro y w1 ⟨rfl, rfl⟩
        go_wp2_with fail
        go_ret
        rw [HX.out]
        exact ⟨rfl, H0.out⟩
      · rw [hk] at HX HA
        cases hk2 : m.r.right
        all_goals
          rw [hk2] at HX HR
          go_enter Tryz.func26, Tryz.ntmps26
          go_wp2_with fail
          refine (HA.out _ H0.out.blk).mono ?_
          rintro y w1 ⟨rfl, rfl⟩
          go_wp2_with fail
          refine (HR.out _ H0.out.blk).mono ?_
          rintro y w1 ⟨rfl, rfl⟩
          go_wp2_with fail
          go_ret
          rw [HX.out]
          exact ⟨rfl, at_drew H0.out⟩
    · rw [ho] at c9 hX
      rw [if_pos rfl] at hX
      have HX := hid hX
      have hpos := hp ho
      have hB := idx_bit m.bits m.pos hpos
      have HX := HX.out
      generalize m.bits.getD m.pos false = d at hB HX
      have HX := hid HX
      have HB := hid hB
      clear hB
      clear hX hp
      go_enter Tryz.func26, Tryz.ntmps26
      go_wp2_with fail
      refine region_text (by kernel_rfl) (by kernel_rfl) (DrInv w g m) ⟨at_drew H0.out⟩ ?_
      refine t_pure (.pointer (some ⟨g, 0, none⟩)) (fun _ => rfl) (fun b γ W h => ⟨h.node⟩) (fun b γ W h _ => by go_simp) ?_
      refine t_pure (.pointer (some ⟨g, 0, none⟩)) (fun _ => rfl) (fun b γ W h => ⟨h.node⟩) (fun b γ W h _ => by go_simp) ?_
      refine t_pure (.pointer (some ⟨g, 9, none⟩)) (fun _ => rfl) (fun b γ W h => ⟨h.node⟩) (fun b γ W h _ => by go_simp) ?_
      refine t_pure (.pointer (some ⟨g, 10, none⟩)) (fun _ => rfl) (fun b γ W h => ⟨h.node⟩) (fun b γ W h _ => by go_simp) ?_
      refine t_pure (.string (B m.bits)) (fun _ => rfl) (fun b γ W h => ⟨h.node⟩) (fun b γ W h _ => by have q := (hd13 h.node.blk).bits; go_simp) ?_
      refine t_pure (.pointer (some ⟨g, 0, none⟩)) (fun _ => rfl) (fun b γ W h => ⟨h.node⟩) (fun b γ W h _ => by go_simp) ?_
      refine t_pure (.pointer (some ⟨g, 0, none⟩)) (fun _ => rfl) (fun b γ W h => ⟨h.node⟩) (fun b γ W h _ => by go_simp) ?_
      refine t_pure (.pointer (some ⟨g, 9, none⟩)) (fun _ => rfl) (fun b γ W h => ⟨h.node⟩) (fun b γ W h _ => by go_simp) ?_
      refine t_pure (.pointer (some ⟨g, 12, none⟩)) (fun _ => rfl) (fun b γ W h => ⟨h.node⟩) (fun b γ W h _ => by go_simp) ?_
      refine t_pure (.int .i64 m.pos) (fun _ => rfl) (fun b γ W h => ⟨h.node⟩) (fun b γ W h _ => by have q := (hd13 h.node.blk).pos; go_simp) ?_
      refine t_pure (.int .u8 ((sg d).toNat : Int)) (fun _ => rfl) (fun b γ W h => ⟨h.node⟩) (fun b γ W h _ => by have q := HB.out W; go_simp) ?_
      refine t_pure (.int .u8 ((sg d).toNat : Int)) (fun _ => rfl) (fun b γ W h => ⟨h.node⟩) (fun b γ W h _ => by go_simp) ?_
      refine t_end ?_
      intro bq gq w2 hall hS
      have HN := hid hS.node
      clear hS hall HB
      simp only [Act.put, List.setIfInBounds_toArray, List.set_cons_zero, List.set_cons_succ]
      go_wp2_with fail
      go_ret
      rw [HX.out]
      exact ⟨rfl, HN.out⟩
  · rw [if_neg h1] at hX
    have e1 : (m.st = 1) = False := eq_false h1
    have e2 : (m.st == 1) = false := by simp [h1]
    clear h1
    by_cases h3 : m.st = 3
    · rw [if_pos h3] at hX
      have e3 : (m.st = 3) = True := eq_true h3
      have e4 : (m.st == 3) = true := by simp [h3]
      have HX := hid hX
      clear hX h3
      go_enter Tryz.func26, Tryz.ntmps26
      go_wp2_with fail
      refine (HI.out _).mono ?_
      rintro y w1 ⟨rfl, hbl⟩
      have H1 := hid (H0.out.later hbl)
      cases hi : isPas m.sent m.got
      all_goals
        rw [hi] at HX
        go_wp2_with fail
        go_ret
        rw [HX.out]
        exact ⟨rfl, H1.out⟩
    · rw [if_neg h3] at hX
      have e3 : (m.st = 3) = False := eq_false h3
      have e4 : (m.st == 3) = false := by simp [h3]
      have HX := hid hX
      clear hX h3
      go_enter Tryz.func26, Tryz.ntmps26
      go_wp2_with fail
      go_ret
      rw [HX.out]
      exact ⟨rfl, H0.out⟩
end Go.Proofs.YtpkpnaedacefaaaGreat.MacW


/- The walks of package mac: a new node, a copy; a frame begins. -/
namespace Go.Proofs.YtpkpnaedacefaaaGreat.MacW
set_option linter.unusedVariables false
set_option linter.unusedSimpArgs false
open Go Go.RowKit Go.Proofs.YtpkpnaedacefaaaGreat.Lib Go.Proofs.YtpkpnaedacefaaaGreat.Bits Go.Proofs.YtpkpnaedacefaaaGreat.BitsW Go.Proofs.YtpkpnaedacefaaaGreat.StuffW Go.Proofs.YtpkpnaedacefaaaGreat.Frame Go.Proofs.YtpkpnaedacefaaaGreat.FrameW Go.Proofs.YtpkpnaedacefaaaGreat.Code Go.Proofs.YtpkpnaedacefaaaGreat.CodeW Go.Proofs.YtpkpnaedacefaaaGreat.Mac Go.Proofs.YtpkpnaedacefaaaGreat.PrintMore
attribute [local go_sem] max2_int min2_int max_two min_two
/-- A row of cells laid from a place on. -/
def setL : List Value → Nat → List Value → List Value
  | cs, _, [] => cs
  | cs, o, v :: r => setL (cs.set o v) (o + 1) r
theorem setL_mid : ∀ (vs pre mid post : List Value), mid.length = vs.length → setL (pre ++ (mid ++ post)) pre.length vs = pre ++ (vs ++ post)
  | [], pre, mid, post, h => by
    have : mid = [] := List.eq_nil_of_length_eq_zero h
    subst this; rfl
  | v :: r, pre, mid, post, h => by
    obtain ⟨x, mid', rfl⟩ : ∃ x t, mid = x :: t := by cases mid <;> simp_all
    have e := setL_mid r (pre ++ [v]) mid' post (by simpa using h)
    simp only [List.length_append, List.length_cons, List.length_nil, Nat.zero_add, List.append_assoc, List.cons_append, List.nil_append] at e
    unfold setL
    rw [List.set_append_right _ _ (Nat.le_refl _), Nat.sub_self]
    exact e
theorem blk_setL {g : Nat} {T : TypeId} : ∀ (vs : List Value) (o : Nat) {W : World} {cs : List Value}, Blk W g T cs → Blk (W.setCells g o vs) g T (setL cs o vs)
  | [], _, _, _, h => h
  | v :: r, o, _, _, h => by
    unfold setL World.setCells
    exact blk_setL r (o + 1) (h.set o v)
theorem here_setL {w : World} {g : Nat} {T : TypeId} : ∀ (vs : List Value) (o : Nat) {W : World} {cs : List Value}, Here w W g T cs → Here w (W.setCells g o vs) g T (setL cs o vs)
  | [], _, _, _, h => h
  | v :: r, o, _, _, h => by
    unfold setL World.setCells
    exact here_setL r (o + 1) (h.set o v)
theorem below_setL {w : World} {B g : Nat} (hg : B ≤ g) : ∀ (vs : List Value) (o : Nat) {W : World}, Below B w W → Below B w (W.setCells g o vs)
  | [], _, _, h => h
  | v :: r, o, _, h => by
    unfold World.setCells
    exact below_setL hg r (o + 1) (h.setCell (by exact hg) v)
theorem blk_there {W : World} {g : Nat} {T : TypeId} {cs : List Value} (h : Blk W g T cs) (o n : Nat) (hl : o + n ≤ cs.length) : W.there g o n := by
  intro j hj
  rw [h.cell]
  exact ⟨by rw [List.getElem?_eq_getElem (by omega)]; rfl, h.frozen _⟩
theorem blk_range {W : World} {g : Nat} {T : TypeId} {cs : List Value} (h : Blk W g T cs) : W.rangeAt g 0 cs := by
  intro j v hv
  rw [Nat.zero_add, h.cell]
  exact hv
theorem mc_length {m : M} (h : m.r.b.length ≤ 128) : (mc m).length = 148 := by simp [mc, hc, rc_length h]
theorem one_cells (m : M) : (mc m).toArray.all (·.oneCell') = true := by
  refine all_oneCell_toArray fun v hv => ?_
  simp only [mc, hc, rc, arrOf, byteVs, List.mem_append, List.mem_cons, List.not_mem_nil, or_false, List.mem_map, List.mem_replicate] at hv
  rcases hv with (h | h | h | h | h | h | h | h | h | h | h | h | h) | (h | h) | ((⟨_, _, h⟩ | ⟨_, h⟩) | h | h | h | h | h) <;> subst h <;> rfl
set_option maxRecDepth 100000 in
theorem new_cells : (Tryz.zeroCells84.setIfInBounds 0 (.int .i64 6)).setIfInBounds 1 (.int .i64 3) = (mc M.new).toArray := by kernel_rfl
set_option maxRecDepth 100000 in
theorem zero_cells : Tryz.zeroCells82 = (rc Rd.zero).toArray := by kernel_rfl
set_option maxRecDepth 100000 in
theorem zero_size : (Tryz.zeroCells84).toList.length = 148 := by kernel_rfl
theorem info_mac : (Tryz.prog.info? MT).map (·.size) = some 148 := by kernel_rfl
theorem info_rd : (Tryz.prog.info? 82).map (·.size) = some 135 := by kernel_rfl
set_option maxRecDepth 100000 in
set_option maxHeartbeats 3200000 in
theorem new_calls (w : World) : Calls Tryz.prog 20 #[] w fun e w' => e = .returned (.pointer (some ⟨w.heap.size, 0, none⟩)) ∧ Blk w' w.heap.size MT (mc M.new) ∧ Below w.heap.size w w' := by
  have HN := hid (new_cells)
  go_enter Tryz.func20, Tryz.ntmps20
  go_wp2_with fail
  rw [HN.out]
  go_ret
  exact ⟨rfl, Blk.new w (mc M.new) MT, (Below.refl w.heap.size w).alloc (Nat.le_refl _) _⟩
set_option maxRecDepth 100000 in
set_option maxHeartbeats 3200000 in
theorem copy_calls (g : Nat) (m : M) (w : World) (hb : Blk w g MT (mc m)) (hl : m.r.b.length ≤ 128) : Calls Tryz.prog 32 #[.pointer (some ⟨g, 0, none⟩)] w fun e w' => e = .returned (.pointer (some ⟨w.heap.size, 0, none⟩)) ∧ Blk w' w.heap.size MT (mc m) ∧ Below w.heap.size w w' := by
  have HB := hid hb
  have HL := hid (mc_length hl)
  have HO := hid (one_cells m)
  clear hb
  generalize mc m = cs at HB HL HO ⊢
  go_enter Tryz.func32, Tryz.ntmps32
  go_wp2_with fail
  refine wp_load_mid MT _ rfl g 0 rfl cs _ (blk_range HB.out) Tryz.underlying84 rfl (by rw [info_mac, HL.out]) ?_
  simp only [Act.put, List.setIfInBounds_toArray, List.set_cons_zero, List.set_cons_succ]
  have HN : Blk (w.alloc (.cells Tryz.zeroCells84 MT)) w.heap.size MT (Tryz.zeroCells84).toList := Blk.new w _ _
  have HZ := zero_size
  have ht := blk_there HN 0 cs.length (by rw [HL.out]; omega)
  have HS := run_storeCells_cells (P := Tryz.prog) w.heap.size 0 cs 0 (w.alloc (.cells Tryz.zeroCells84 MT)) (fun j hj => by simpa using (ht j hj).1) (fun j hj => by have h9 := (ht j hj).2; simp only [Nat.zero_add] at h9 ⊢; exact h9) (fun v hv => (Array.all_eq_true_iff_forall_mem.1 HO.out) v (by simpa using hv))
  simp only [Nat.add_zero] at HS
  have HW := hid (below_setL (g := w.heap.size) (Nat.le_refl _) cs 0 ((Below.refl w.heap.size w).alloc (Nat.le_refl _) (.cells Tryz.zeroCells84 MT)))
  have HX := blk_setL cs 0 HN
  have e := setL_mid cs [] (Tryz.zeroCells84).toList [] (by rw [HZ, HL.out])
  simp only [List.nil_append, List.append_nil, List.length_nil] at e
  rw [e] at HX
  have HX := hid HX
  clear HN HZ e ht
  generalize (w.alloc (.cells Tryz.zeroCells84 MT)).setCells w.heap.size 0 cs = w2 at HS HW HX
  go_wp2_with fail
  go_ret
  exact ⟨rfl, HX.out, HW.out⟩
end Go.Proofs.YtpkpnaedacefaaaGreat.MacW
