/- The walks of package mac: a node in memory; the small calls. -/
import Derived.Test.YtgmjofcbdimjgaaMacA
import Derived.Deep.MidRow
namespace Go.Proofs.Ytgmjofcbdimjgaa.MacW
set_option linter.unusedVariables false
set_option linter.unusedSimpArgs false
open Go Go.RowKit Go.Proofs.Ytgmjofcbdimjgaa.Lib Go.Proofs.Ytgmjofcbdimjgaa.Bits Go.Proofs.Ytgmjofcbdimjgaa.BitsW Go.Proofs.Ytgmjofcbdimjgaa.StuffW Go.Proofs.Ytgmjofcbdimjgaa.Frame Go.Proofs.Ytgmjofcbdimjgaa.FrameW Go.Proofs.Ytgmjofcbdimjgaa.Code Go.Proofs.Ytgmjofcbdimjgaa.CodeW Go.Proofs.Ytgmjofcbdimjgaa.Mac Go.Proofs.Ytgmjofcbdimjgaa.PrintMore
attribute [local go_sem] max2_int min2_int max_two min_two
/-- A frame's cells, an event's, a reader's, a node's. -/
def fc (f : Fm) : List Value := [.bool f.e, .int .u32 f.i, .bool f.r, .string f.d]
def fv (f : Fm) : Value := .agg #[.bool f.e, .int .u32 f.i, .bool f.r, .string f.d]
def ec (x : Ev) : List Value := [.int .i64 x.kind, .bool x.f.e, .int .u32 x.f.i, .bool x.f.r, .string x.f.d, .int .i64 x.err]
def rc (r : Rd) : List Value := [.int .u8 (if r.rn = 0 then 0 else ((sg r.rb).toNat : Int)), .int .i64 r.rn] ++ (arrOf r.b ++ [.int .i64 r.b.length, .int .i64 r.need, .int .u16 r.sum, .int .i64 r.en, .bool r.laid])
def hc (m : M) : List Value := [.int .i64 m.st, .int .i64 m.left, .int .i64 m.sent, .int .i64 m.got, .bool m.waits, .bool m.f.e, .int .u32 m.f.i, .bool m.f.r, .string m.f.d, .bool m.on, .string (B m.bits), .int .i64 m.arb, .int .i64 m.pos]
def mc (m : M) : List Value := hc m ++ rc m.r
theorem rc_length {r : Rd} (h : r.b.length ≤ 128) : (rc r).length = 135 := by
  have := arrOf_length r.b h
  simp [rc, this]
theorem mc_rd (m : M) (h : m.r.b.length ≤ 128) : IsRd (mc m) 13 m.r := by
  refine ⟨arrOf_length m.r.b h, hc m, [], ?_, rfl⟩
  simp [mc, rc]
theorem mc_get (m : M) : (mc m)[0]? = some (.int .i64 m.st) ∧ (mc m)[1]? = some (.int .i64 m.left) ∧ (mc m)[2]? = some (.int .i64 m.sent) ∧ (mc m)[3]? = some (.int .i64 m.got) ∧ (mc m)[4]? = some (.bool m.waits) ∧
    (mc m)[5]? = some (.bool m.f.e) ∧ (mc m)[6]? = some (.int .u32 m.f.i) ∧ (mc m)[7]? = some (.bool m.f.r) ∧ (mc m)[8]? = some (.string m.f.d) ∧
    (mc m)[9]? = some (.bool m.on) ∧ (mc m)[10]? = some (.string (B m.bits)) ∧ (mc m)[11]? = some (.int .i64 m.arb) ∧ (mc m)[12]? = some (.int .i64 m.pos) := ⟨rfl, rfl, rfl, rfl, rfl, rfl, rfl, rfl, rfl, rfl, rfl, rfl, rfl⟩
/-- What is behind a reader's call. -/
theorem mc_post {m : M} {cs : List Value} {r : Rd} (h : m.r.b.length ≤ 128) (hr : IsRd cs 13 r) (hs : Same (mc m) cs 13) : cs = mc { m with r := r } := by
  obtain ⟨hl, pre, post, rfl, hp⟩ := hr
  have hmc : (mc m).length = 148 := by simp [mc, hc, rc_length h]
  have hpre : pre = hc m := by
    apply List.ext_getElem?
    intro i
    by_cases hi : i < 13
    · have := hs i (.inl hi)
      rw [List.getElem?_append_left (by omega)] at this
      rw [this, mc, List.getElem?_append_left (by show i < 13; exact hi)]
    · rw [List.getElem?_eq_none (by omega), List.getElem?_eq_none (by show 13 ≤ i; omega)]
  have hpost : post = [] := by
    apply List.eq_nil_iff_length_eq_zero.2
    have := hs 148 (.inr (by omega))
    rw [List.getElem?_eq_none (l := mc m) (by omega)] at this
    have h2 := List.getElem?_eq_none_iff.1 this
    simp [hl, hp] at h2
    omega
  subst hpre hpost
  simp [mc, rc, hc]
abbrev MT : TypeId := 72
/-- A node in memory, behind some steps. -/
abbrev At (w W : World) (g : Nat) (m : M) : Prop := Here w W g MT (mc m)
/-- The cells of a node's head, as they are read. -/
structure Hd13 (W : World) (g : Nat) (m : M) : Prop where
  st : W.cell? ⟨g, 0, none⟩ = some (.int .i64 m.st)
  left : W.cell? ⟨g, 1, none⟩ = some (.int .i64 m.left)
  sent : W.cell? ⟨g, 2, none⟩ = some (.int .i64 m.sent)
  got : W.cell? ⟨g, 3, none⟩ = some (.int .i64 m.got)
  waits : W.cell? ⟨g, 4, none⟩ = some (.bool m.waits)
  fe : W.cell? ⟨g, 5, none⟩ = some (.bool m.f.e)
  fi : W.cell? ⟨g, 6, none⟩ = some (.int .u32 m.f.i)
  fr : W.cell? ⟨g, 7, none⟩ = some (.bool m.f.r)
  fd : W.cell? ⟨g, 8, none⟩ = some (.string m.f.d)
  on : W.cell? ⟨g, 9, none⟩ = some (.bool m.on)
  bits : W.cell? ⟨g, 10, none⟩ = some (.string (B m.bits))
  arb : W.cell? ⟨g, 11, none⟩ = some (.int .i64 m.arb)
  pos : W.cell? ⟨g, 12, none⟩ = some (.int .i64 m.pos)
theorem hd13 {W : World} {g : Nat} {m : M} (h : Blk W g MT (mc m)) : Hd13 W g m :=
  ⟨h.cell 0, h.cell 1, h.cell 2, h.cell 3, h.cell 4, h.cell 5, h.cell 6, h.cell 7, h.cell 8, h.cell 9, h.cell 10, h.cell 11, h.cell 12⟩
theorem Here.keep {w W W' : World} {g : Nat} {T : TypeId} {cs cs' : List Value} (h : Here w W g T cs) (hb : Here W W' g T cs') : Here w W' g T cs' := ⟨hb.blk, grown_trans h.grown hb.grown⟩
theorem here_refl {w : World} {g : Nat} {T : TypeId} {cs : List Value} (h : Blk w g T cs) : Here w w g T cs := ⟨h, grown_refl w (some g)⟩
set_option maxRecDepth 100000 in
set_option maxHeartbeats 3200000 in
theorem pauses_calls (g : Nat) (m : M) (w : World) (hb : Blk w g MT (mc m)) : Calls Try.prog 43 #[.pointer (some ⟨g, 0, none⟩)] w fun e w' => e = .returned (.tuple #[]) ∧ At w w' g m.pauses := by
  have c0 := hb.cell 0
  have c1 := hb.cell 1
  have f0 := hb.frozen 0
  have f1 := hb.frozen 1
  rw [show (mc m)[0]? = some (.int .i64 m.st) from rfl] at c0
  rw [show (mc m)[1]? = some (.int .i64 m.left) from rfl] at c1
  have HH := hid (show At w _ g m.pauses from ((here_refl hb).set 0 (.int .i64 6)).set 1 (.int .i64 3))
  go_enter Try.func43, Try.ntmps43
  go_wp2_with fail
  go_end0
  exact ⟨rfl, HH.out⟩
set_option maxRecDepth 100000 in
set_option maxHeartbeats 3200000 in
theorem done_calls (g : Nat) (m : M) (w : World) (hb : Blk w g MT (mc m)) : Calls Try.prog 52 #[.pointer (some ⟨g, 0, none⟩)] w fun e w' => e = .returned (.tuple #[]) ∧ At w w' g m.done := by
  obtain ⟨c0, c1, c2, c3, c4, c5, c6, c7, c8, c9, c10, c11, c12⟩ := hd13 hb
  have f4 := hb.frozen 4
  have f5 := hb.frozen 5
  have f6 := hb.frozen 6
  have f7 := hb.frozen 7
  have f8 := hb.frozen 8
  have f9 := hb.frozen 9
  have f10 := hb.frozen 10
  have f11 := hb.frozen 11
  have f12 := hb.frozen 12
  have HH := hid (show At w _ g m.done from (((((((((here_refl hb).set 4 (.bool false)).set 5 (.bool false)).set 6 (.int .u32 0)).set 7 (.bool false)).set 8 (.string ⟨#[]⟩)).set 9 (.bool false)).set 10 (.string ⟨#[]⟩)).set 11 (.int .i64 0)).set 12 (.int .i64 0))
  go_enter Try.func52, Try.ntmps52
  go_wp2_with fail
  go_end0
  exact ⟨rfl, HH.out⟩
set_option maxRecDepth 100000 in
set_option maxHeartbeats 3200000 in
theorem counted_calls (g : Nat) (m : M) (s l : Int) (w : World) (hb : Blk w g MT (mc m)) (h0 : -1000 ≤ m.left) (h1 : m.left ≤ 1000) :
    Calls Try.prog 44 #[.pointer (some ⟨g, 0, none⟩), .int .i64 s, .int .i64 l] w fun e w' => e = .returned (.tuple #[]) ∧ At w w' g (m.counted s l) := by
  obtain ⟨c0, c1, c2, c3, c4, c5, c6, c7, c8, c9, c10, c11, c12⟩ := hd13 hb
  have f0 := hb.frozen 0
  have f1 := hb.frozen 1
  have H1 := (here_refl hb).set 1 (.int .i64 (m.left - 1))
  have d0 := H1.blk.cell 0
  have d1 := H1.blk.cell 1
  rw [show ((mc m).set 1 (.int .i64 (m.left - 1)))[0]? = some (.int .i64 m.st) from rfl] at d0
  rw [show ((mc m).set 1 (.int .i64 (m.left - 1)))[1]? = some (.int .i64 (m.left - 1)) from rfl] at d1
  obtain ⟨X, hX⟩ : ∃ X, X = m.counted s l := ⟨_, rfl⟩
  rw [← hX]
  unfold M.counted at hX
  have ew : IntKind.i64.wrap (m.left - 1) = m.left - 1 := by rw [IntKind.wrap_i64]; omega
  by_cases hle : m.left - 1 ≤ 0
  · rw [if_pos hle] at hX
    have e1 : (m.left - 1 ≤ 0) = True := eq_true hle
    have e2 : decide (m.left - 1 ≤ 0) = true := decide_eq_true hle
    have HH := hid (show At w _ g { m with st := s, left := l } from (H1.set 0 (.int .i64 s)).set 1 (.int .i64 l))
    have HX := hid hX
    clear H1 hX
    go_enter Try.func44, Try.ntmps44
    go_wp2_with fail
    go_end0
    rw [HX.out]
    exact ⟨rfl, HH.out⟩
  · rw [if_neg hle] at hX
    have e1 : (m.left - 1 ≤ 0) = False := eq_false hle
    have e2 : decide (m.left - 1 ≤ 0) = false := decide_eq_false hle
    have HH := hid (show At w _ g { m with left := m.left - 1 } from H1)
    have HX := hid hX
    clear H1 hX
    go_enter Try.func44, Try.ntmps44
    go_wp2_with fail
    go_end0
    rw [HX.out]
    exact ⟨rfl, HH.out⟩
theorem idle_calls (g : Nat) (m : M) (w : World) (hb : Blk w g MT (mc m)) : Calls Try.prog 18 #[.pointer (some ⟨g, 0, none⟩)] w fun e w' => e = .returned (.bool (m.st == 0)) ∧ w' = w := by
  obtain ⟨c0, c1, c2, c3, c4, c5, c6, c7, c8, c9, c10, c11, c12⟩ := hd13 hb
  go_enter Try.func18, Try.ntmps18
  go_wp2_with fail
  go_ret
  exact ⟨rfl, rfl⟩
theorem busy_calls (g : Nat) (m : M) (w : World) (hb : Blk w g MT (mc m)) : Calls Try.prog 19 #[.pointer (some ⟨g, 0, none⟩)] w fun e w' => e = .returned (.bool m.waits) ∧ w' = w := by
  obtain ⟨c0, c1, c2, c3, c4, c5, c6, c7, c8, c9, c10, c11, c12⟩ := hd13 hb
  go_enter Try.func19, Try.ntmps19
  go_wp2_with fail
  go_ret
  exact ⟨rfl, rfl⟩
set_option maxRecDepth 100000 in
set_option maxHeartbeats 3200000 in
theorem counts_calls (g : Nat) (m : M) (w : World) (hb : Blk w g MT (mc m)) : Calls Try.prog 22 #[.pointer (some ⟨g, 0, none⟩)] w fun e w' => e = .returned (.agg #[.int .i64 m.sent, .int .i64 m.got]) ∧ Below w.heap.size w w' := by
  obtain ⟨c0, c1, c2, c3, c4, c5, c6, c7, c8, c9, c10, c11, c12⟩ := hd13 hb
  have hA := hb.alloc (.cells #[.int .i64 0, .int .i64 0] 39)
  have a2 := hA.cell 2
  have a3 := hA.cell 3
  rw [show (mc m)[2]? = some (.int .i64 m.sent) from rfl] at a2
  rw [show (mc m)[3]? = some (.int .i64 m.got) from rfl] at a3
  have h3 := Blk.new w [.int .i64 m.sent, .int .i64 m.got] 39
  have hC := (Below.refl w.heap.size w).alloc (Nat.le_refl _) (.cells #[.int .i64 m.sent, .int .i64 m.got] 39)
  have q0 := h3.cell 0
  have q1 := h3.cell 1
  simp only [List.getElem?_cons_zero, List.getElem?_cons_succ] at q0 q1
  have HC := hid hC
  clear hC hA
  go_enter Try.func22, Try.ntmps22
  go_wp2_with fail
  refine bodyPost_ret (v := .agg #[.int .i64 m.sent, .int .i64 m.got]) (by simp [results, Try.results22, go_sem, q0, q1]) rfl ⟨rfl, HC.out⟩
set_option maxRecDepth 100000 in
set_option maxHeartbeats 3200000 in
theorem cancel_calls (g : Nat) (m : M) (w : World) (hb : Blk w g MT (mc m)) : Calls Try.prog 28 #[.pointer (some ⟨g, 0, none⟩)] w fun e w' => e = .returned (.bool m.cancel.2) ∧ At w w' g m.cancel.1 := by
  obtain ⟨c0, c1, c2, c3, c4, c5, c6, c7, c8, c9, c10, c11, c12⟩ := hd13 hb
  have HD := hid (done_calls g m w hb)
  have H0 := hid (here_refl hb)
  unfold M.cancel
  clear hb
  cases hw : m.waits
  · rw [hw] at c4
    rw [if_pos (.inl rfl)]
    go_enter Try.func28, Try.ntmps28
    go_wp2_with fail
    go_ret
    exact ⟨rfl, H0.out⟩
  · rw [hw] at c4
    cases ho : m.on
    · rw [ho] at c9
      rw [if_neg (by simp)]
      go_enter Try.func28, Try.ntmps28
      go_wp2_with fail
      refine HD.out.mono ?_
      rintro x w1 ⟨rfl, h1⟩
      go_wp2_with fail
      go_ret
      exact ⟨rfl, h1⟩
    · rw [ho] at c9
      rw [if_pos (.inr rfl)]
      go_enter Try.func28, Try.ntmps28
      go_wp2_with fail
      go_ret
      exact ⟨rfl, H0.out⟩
theorem atAck_calls (g : Nat) (m : M) (w : World) (hb : Blk w g MT (mc m)) (hl : m.r.b.length ≤ 128) : Calls Try.prog 45 #[.pointer (some ⟨g, 13, none⟩)] w fun e w' => e = .returned (.bool (m.r.en == 1)) ∧ w' = w := by
  obtain ⟨_, _, _, _, _, g5, _⟩ := IsRaw.get (mc_rd m hl)
  have c5 := (hb.cell (13 + 133)).trans g5
  simp only [Nat.reduceAdd] at c5
  have e1 : ((m.r.en : Int) == 1) = (m.r.en == 1) := by rw [Bool.eq_iff_iff]; simp only [beq_iff_eq]; omega
  go_enter Try.func45, Try.ntmps45
  go_wp2_with fail
  go_ret
  exact ⟨by rw [← e1]; rfl, rfl⟩
end Go.Proofs.Ytgmjofcbdimjgaa.MacW
