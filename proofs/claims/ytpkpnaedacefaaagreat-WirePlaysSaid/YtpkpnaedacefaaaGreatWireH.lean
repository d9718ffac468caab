/- A wire as its callers see it. -/
import Derived.Test.YtpkpnaedacefaaaGreatWireF
namespace Go.Proofs.YtpkpnaedacefaaaGreat.WireW
set_option linter.unusedVariables false
set_option linter.unusedSimpArgs false
open Go Go.RowKit Go.Proofs.YtpkpnaedacefaaaGreat.Lib Go.Proofs.YtpkpnaedacefaaaGreat.Bits Go.Proofs.YtpkpnaedacefaaaGreat.BitsW Go.Proofs.YtpkpnaedacefaaaGreat.Mac Go.Proofs.YtpkpnaedacefaaaGreat.MacW Go.Proofs.YtpkpnaedacefaaaGreat.WireN Go.Proofs.YtpkpnaedacefaaaGreat.BusW Go.Proofs.YtpkpnaedacefaaaGreat.PrintMore
def Gc.turned (c : Gc) (flip : Bool) : Gc := { c with t := c.t || flip }
/-- A bit time; what all tell. -/
def Gc.step (c : Gc) (flip : Bool) : Gc := { mid (c.turned flip) (cb (c.turned flip)) c.n with l := more c.l (cb (c.turned flip)), bn := c.bn + 1, t := false }
def Gc.evs (c : Gc) (flip : Bool) : List Ev := WireW.evs (c.turned flip) (cb (c.turned flip)) c.n
def Gc.ask (c : Gc) (j : Nat) (f : Fm) : Gc := { c with ms := upd c.ms j ((c.ms j).ask f).1 }
def Gc.new (n : Nat) : Gc := ⟨n, fun _ => M.new, fun _ => [], [], 0, false⟩
/-- A wire at g, made at B; F holds its blocks. -/
structure Wi (w0 W : World) (B g : Nat) (F : Nat → Prop) (c : Gc) : Prop where
  ex : ∃ a, WM w0 W B a c ∧ a.gw = g ∧ ∀ k, a.foot B c.n W k → F k
  short : ∀ i, i < c.n → (c.hs i).length ≤ 100
variable {w0 W W' : World} {B g : Nat} {F : Nat → Prop} {c : Gc}
theorem Wi.below (h : Wi w0 W B g F c) : Below w0.heap.size w0 W := by obtain ⟨a, h1, _⟩ := h.ex; exact h1.below
theorem Wi.size (h : Wi w0 W B g F c) : B ≤ W.heap.size := by obtain ⟨a, h1, _⟩ := h.ex; exact h1.size
theorem Wi.base (h : Wi w0 W B g F c) : w0.heap.size ≤ B := by obtain ⟨a, h1, _⟩ := h.ex; exact h1.le
theorem Wi.count (h : Wi w0 W B g F c) : 1 ≤ c.n ∧ c.n ≤ 8 := by obtain ⟨a, h1, _⟩ := h.ex; exact ⟨h1.pos, h1.most⟩
theorem Wi.later (h : Wi w0 W B g F c) (k : Below W.heap.size W W') : Wi w0 W' B g (fun q => F q ∨ W.heap.size ≤ q) c := by
  obtain ⟨a, h1, h2, h3⟩ := h.ex
  refine ⟨⟨a, h1.new k, h2, fun q hq => ?_⟩, h.short⟩
  have := foot_next (a := a) (a' := a) (n := c.n) (B := B) (Kp.of_below k _) rfl rfl rfl rfl (fun i k hi e => .inl (.inr (.inr (.inr (.inr (.inl ⟨i, hi, e⟩)))))) q hq
  exact this.imp (h3 q) id
/-- Something is done elsewhere. -/
theorem Wi.kp {G : Nat → Prop} (h : Wi w0 W B g F c) (k : Kp G W W') (hn : ∀ i, F i → ¬ G i) (hG : ∀ i, G i → w0.heap.size ≤ i) (hu : ∀ i, G i → ¬ U8 W' i) : Wi w0 W' B g (fun q => F q ∨ W.heap.size ≤ q) c := by
  obtain ⟨a, h1, h2, h3⟩ := h.ex
  refine ⟨⟨a, h1.kp k (fun i hi => hn i (h3 i hi)) hG, h2, fun q hq => ?_⟩, h.short⟩
  rcases hq with hq | hq | hq | hq | hq | ⟨hq, hu2⟩
  · exact .inl (h3 q (.inl hq))
  · exact .inl (h3 q (.inr (.inl hq)))
  · exact .inl (h3 q (.inr (.inr (.inl hq))))
  · exact .inl (h3 q (.inr (.inr (.inr (.inl hq)))))
  · exact .inl (h3 q (.inr (.inr (.inr (.inr (.inl hq))))))
  · by_cases hl : q < W.heap.size
    · have hg : ¬ G q := fun e => hu q e hu2
      obtain ⟨cs, z, e⟩ := hu2
      exact .inl (h3 q (.inr (.inr (.inr (.inr (.inr ⟨hq, cs, z, (k.block q hl hg).symm.trans e⟩))))))
    · exact .inr (Nat.le_of_not_lt hl)
theorem Wi.mono {F' : Nat → Prop} (h : Wi w0 W B g F c) (hF : ∀ k, F k → F' k) : Wi w0 W B g F' c := by
  obtain ⟨a, h1, h2, h3⟩ := h.ex
  exact ⟨⟨a, h1, h2, fun k hk => hF k (h3 k hk)⟩, h.short⟩
theorem Wi.congr {c' : Gc} (h : Wi w0 W B g F c) (hn : c'.n = c.n) (h1 : ∀ i, i < c.n → c'.ms i = c.ms i) (h2 : ∀ i, i < c.n → c'.hs i = c.hs i) (hl : c'.l = c.l) (hb : c'.bn = c.bn) (ht : c'.t = c.t) : Wi w0 W B g F c' := by
  obtain ⟨a, k1, k2, k3⟩ := h.ex
  exact ⟨⟨a, k1.congr hn h1 h2 hl hb ht, k2, fun k hk => k3 k (by rw [hn] at hk; exact hk)⟩, fun i hi => by rw [h2 i (hn ▸ hi)]; exact h.short i (hn ▸ hi)⟩
theorem wi_new (n : Int) (hb : Below w0.heap.size w0 W) : Calls Tryz.prog 5 #[.int .i64 n] W fun e w' => ∃ g, e = .returned (.pointer (some ⟨g, 0, none⟩)) ∧ Wi w0 w' W.heap.size g (fun k => W.heap.size ≤ k ∧ k < w'.heap.size) (Gc.new (kOf n)) ∧ Below W.heap.size W w' := by
  refine (new_calls n W).mono ?_
  rintro e w' ⟨gw, gr, gb, gs, rfl, h⟩
  obtain ⟨k1, k2⟩ := k_pos n
  have hd : Below w0.heap.size w0 w' := hb.trans (h.below.mono hb.size)
  have hw : WM w0 w' W.heap.size ⟨gw, gr, gb, gs, fun _ => .slice none 0 0, .slice none 0 0⟩ (Gc.new (kOf n)) := by
    refine ⟨h.top, ?_, fun i hi => ⟨⟨(h.node i hi).nd.blk, hd, Nat.le_trans hb.size (h.node i hi).nd.le⟩, (h.node i hi).fine⟩, fun i _ => evs_nil _ _, fun i _ => by show ([] : List Ev).length ≤ 200; simp, h.bus, h.inj, fun i j k _ _ e => by simp [Value.ownBlock] at e, hd, hb.size, h.lw, h.lr, fun i hi => (h.node i hi).nd.le, k1, k2, by show ([] : List UInt8).length ≤ 8000; simp⟩
    show Blk w' gr _ (ncs gs (fun _ => .slice none 0 0) (kOf n))
    rw [ncs_rcs, rcs_congr (ps' := fun i => if i < kOf n then Value.pointer (some ⟨gs i, 0, none⟩) else .pointer none) (kOf n) (fun i hi => (if_pos hi).symm) (fun _ _ => rfl)]
    exact h.row
  exact ⟨gw, rfl, ⟨⟨_, hw, rfl, fun k hk => hw.foot_le hk⟩, fun i _ => by show ([] : List Ev).length ≤ 100; simp⟩, h.below⟩
theorem wi_len (h : Wi w0 W B g F c) : Calls Tryz.prog 7 #[.pointer (some ⟨g, 0, none⟩)] W fun e w' => e = .returned (.int .i64 c.n) ∧ w' = W := by
  obtain ⟨a, h1, rfl, _⟩ := h.ex
  exact len_wire h1
theorem wi_bus (h : Wi w0 W B g F c) : Calls Tryz.prog 16 #[.pointer (some ⟨g, 0, none⟩)] W fun e w' => ∃ gb bv, e = .returned (.pointer (some ⟨gb, 0, none⟩)) ∧ IsBus W B gb bv c.l c.bn c.t ∧ c.l.length ≤ 8000 ∧ w' = W := by
  obtain ⟨a, h1, rfl, _⟩ := h.ex
  exact (bus_wire h1).mono fun e w' ⟨k1, k2⟩ => ⟨_, _, k1, h1.bus, h1.ll, k2⟩
theorem wi_mac (h : Wi w0 W B g F c) (j : Nat) (hj : j < c.n) : Calls Tryz.prog 14 #[.pointer (some ⟨g, 0, none⟩), .int .i64 j] W fun e w' => ∃ q, e = .returned (.pointer (some ⟨q, 0, none⟩)) ∧ Nf w0 W q (c.ms j) ∧ w' = W := by
  obtain ⟨a, h1, rfl, _⟩ := h.ex
  exact (mac_in h1 j hj).mono fun e w' ⟨k1, k2⟩ => ⟨_, k1, h1.node j hj, k2⟩
theorem wi_mac_out (h : Wi w0 W B g F c) (j : Int) (hj : j < 0 ∨ (c.n : Int) ≤ j) : Calls Tryz.prog 14 #[.pointer (some ⟨g, 0, none⟩), .int .i64 j] W fun e w' => e = .returned (.pointer none) ∧ w' = W := by
  obtain ⟨a, h1, rfl, _⟩ := h.ex
  exact mac_out h1 j hj
theorem wi_ask (h : Wi w0 W B g F c) (j : Nat) (hj : j < c.n) (f : Fm) (hf : f.wf) : Calls Tryz.prog 9 #[.pointer (some ⟨g, 0, none⟩), .int .i64 j, fv f] W fun e w' =>
    ∃ F', e = .returned (.int .i64 ((c.ms j).ask f).2) ∧ Wi w0 w' B g F' (c.ask j f) ∧ Kp F W w' ∧ ∀ k, F' k → F k ∨ W.heap.size ≤ k := by
  obtain ⟨a, h1, rfl, h3⟩ := h.ex
  refine (ask_in h1 j hj f hf).mono ?_
  rintro e w' ⟨rfl, k1, k2⟩
  refine ⟨a.foot B c.n w', rfl, ⟨⟨a, k1, rfl, fun k hk => hk⟩, h.short⟩, k2.mono h3, fun k hk => ?_⟩
  exact (foot_next k2 rfl rfl rfl rfl (fun i k hi e => .inl (.inr (.inr (.inr (.inr (.inl ⟨i, hi, e⟩)))))) k hk).imp (h3 k) id
theorem wi_ask_out (h : Wi w0 W B g F c) (j : Int) (hj : j < 0 ∨ (c.n : Int) ≤ j) (f : Fm) : Calls Tryz.prog 9 #[.pointer (some ⟨g, 0, none⟩), .int .i64 j, fv f] W fun e w' =>
    e = .returned (.int .i64 141) ∧ Wi w0 w' B g (fun q => F q ∨ W.heap.size ≤ q) c ∧ Below W.heap.size W w' := by
  obtain ⟨a, h1, rfl, h3⟩ := h.ex
  exact (ask_out h1 j hj f).mono fun e w' ⟨k1, _, k3⟩ => ⟨k1, h.later k3, k3⟩
theorem wi_heard (h : Wi w0 W B g F c) (j : Nat) (hj : j < c.n) : Calls Tryz.prog 13 #[.pointer (some ⟨g, 0, none⟩), .int .i64 j] W fun e w' => ∃ v, e = .returned v ∧ Evs w' W.heap.size v (c.hs j) ∧ Below W.heap.size W w' ∧ Wi w0 w' B g (fun q => F q ∨ W.heap.size ≤ q) c := by
  obtain ⟨a, h1, rfl, _⟩ := h.ex
  exact (heard_in h1 j hj).mono fun e w' ⟨v, k1, k2, k3⟩ => ⟨v, k1, k2, k3, h.later k3⟩
theorem wi_heard_out (h : Wi w0 W B g F c) (j : Int) (hj : j < 0 ∨ (c.n : Int) ≤ j) : Calls Tryz.prog 13 #[.pointer (some ⟨g, 0, none⟩), .int .i64 j] W fun e w' => e = .returned (.slice none 0 0) ∧ w' = W := by
  obtain ⟨a, h1, rfl, _⟩ := h.ex
  exact heard_out h1 j hj
theorem wi_step (h : Wi w0 W B g F c) (flip : Bool) (hn : c.bn ≤ 1000000) : Calls Tryz.prog 11 #[.pointer (some ⟨g, 0, none⟩), .bool flip] W fun e w' =>
    ∃ v F', e = .returned v ∧ Wi w0 w' B g F' (c.step flip) ∧ Evs w' W.heap.size v (c.evs flip) ∧ Kp F W w' ∧ (∀ k, F' k → F k ∨ W.heap.size ≤ k) ∧ ∀ k, v.ownBlock = some k → ¬ F' k := by
  obtain ⟨a, h1, rfl, h3⟩ := h.ex
  refine (step_calls h1 flip hn h.short).mono ?_
  rintro e w' ⟨v, a', c1, rfl, rfl, k1, k2, k3, k4, k5, k6⟩
  refine ⟨v, a'.foot B c.n w', rfl, ⟨⟨a', k2, k1, fun k hk => hk⟩, fun i hi => ?_⟩, k3, k4.mono h3, fun k hk => (k5 k hk).imp (h3 k) id, k6⟩
  show List.length (if i < c.n then _ else _) ≤ 100
  split
  · exact keep_len _
  · exact h.short i hi
end Go.Proofs.YtpkpnaedacefaaaGreat.WireW


/- A wire, and frames beside it. -/
namespace Go.Proofs.YtpkpnaedacefaaaGreat.WireW
set_option linter.unusedVariables false
set_option linter.unusedSimpArgs false
open Go Go.RowKit Go.Proofs.YtpkpnaedacefaaaGreat.Lib Go.Proofs.YtpkpnaedacefaaaGreat.Bits Go.Proofs.YtpkpnaedacefaaaGreat.BitsW Go.Proofs.YtpkpnaedacefaaaGreat.Mac Go.Proofs.YtpkpnaedacefaaaGreat.MacW Go.Proofs.YtpkpnaedacefaaaGreat.WireN Go.Proofs.YtpkpnaedacefaaaGreat.BusW Go.Proofs.YtpkpnaedacefaaaGreat.PrintMore
/-- A wire at g; frames in boxes. -/
structure WB (w W : World) (B g : Nat) (ps : List (Nat × Fm)) (c : Gc) : Prop where
  out : ∃ F, Wi w W B g F c ∧ ∀ x ∈ ps, ¬ F x.1
  box : ∀ x ∈ ps, Blk W x.1 35 (fc x.2)
variable {w W W' : World} {B g : Nat} {ps : List (Nat × Fm)} {c : Gc}
theorem WB.below (h : WB w W B g ps c) : Below w.heap.size w W := by obtain ⟨F, h1, _⟩ := h.out; exact h1.below
theorem WB.base (h : WB w W B g ps c) : w.heap.size ≤ B ∧ B ≤ W.heap.size := by obtain ⟨F, h1, _⟩ := h.out; exact ⟨h1.base, h1.size⟩
theorem WB.later (h : WB w W B g ps c) (k : Below W.heap.size W W') : WB w W' B g ps c := by
  obtain ⟨F, h1, h2⟩ := h.out
  exact ⟨⟨_, h1.later k, fun x hx e => e.elim (h2 x hx) (fun q => by have := (h.box x hx).lt; omega)⟩, fun x hx => (h.box x hx).below k⟩
theorem WB.drew (h : WB w W B g ps c) : WB w W.drew B g ps c := h.later (Below.refl _ W).drew
theorem WB.alloc (h : WB w W B g ps c) (o : Obj) : WB w (W.alloc o) B g ps c := h.later ((Below.refl _ W).alloc (Nat.le_refl _) o)
theorem WB.congr {c' : Gc} (h : WB w W B g ps c) (hn : c'.n = c.n) (h1 : ∀ i, i < c.n → c'.ms i = c.ms i) (h2 : ∀ i, i < c.n → c'.hs i = c.hs i) (hl : c'.l = c.l) (hb : c'.bn = c.bn) (ht : c'.t = c.t) : WB w W B g ps c' := by
  obtain ⟨F, k1, k2⟩ := h.out
  exact ⟨⟨F, k1.congr hn h1 h2 hl hb ht, k2⟩, h.box⟩
theorem WB.add (h : WB w W B g ps c) (f : Fm) : WB w (W.alloc (.cells (fc f).toArray 35)) B g ((W.heap.size, f) :: ps) c := by
  obtain ⟨F, h1, h2⟩ := h.out
  have k := (Below.refl W.heap.size W).alloc (Nat.le_refl _) (.cells (fc f).toArray 35)
  refine ⟨⟨fun q => F q ∧ q < W.heap.size ∨ False, ?_, ?_⟩, fun x hx => ?_⟩
  · obtain ⟨a, a1, a2, a3⟩ := h1.ex
    refine ⟨⟨a, a1.new k, a2, fun q hq => .inl ?_⟩, h1.short⟩
    have hf := foot_next (a := a) (a' := a) (n := c.n) (B := B) (Kp.of_below k _) rfl rfl rfl rfl (fun i k hi e => .inl (.inr (.inr (.inr (.inr (.inl ⟨i, hi, e⟩)))))) q hq
    rcases hf with hf | hf
    · exact ⟨a3 q hf, (a1.foot_le hf).2⟩
    · exfalso
      have hn : (W.alloc (.cells (fc f).toArray 35)).heap.size = W.heap.size + 1 := by simp
      rcases hq with e | e | e | ⟨i, hi, e⟩ | ⟨i, hi, e⟩ | ⟨_, e⟩
      · have := a1.top.lt; omega
      · have := a1.row.lt; omega
      · have := a1.bus.2.1.lt; omega
      · have := (a1.node i hi).nd.blk.lt; omega
      · have := (owns_lt (a1.heard i hi) e).2; omega
      · have hl := u8_lt e
        obtain rfl : q = W.heap.size := by omega
        exact blk_not8 (Blk.new W (fc f) 35) (by decide) e
  · intro x hx e
    rcases e with ⟨e1, e2⟩ | e
    · rcases List.mem_cons.1 hx with rfl | hx
      · simp at e2
      · exact h2 x hx e1
    · exact e
  · rcases List.mem_cons.1 hx with rfl | hx
    · exact Blk.new W (fc f) _
    · exact (h.box x hx).alloc _
theorem WB.next {F F' : Nat → Prop} {c' : Gc} (h : ∀ x ∈ ps, Blk W x.1 35 (fc x.2) ∧ ¬ F x.1) (h' : Wi w W' B g F' c') (k : Kp F W W') (hF : ∀ q, F' q → F q ∨ W.heap.size ≤ q) : WB w W' B g ps c' :=
  ⟨⟨F', h', fun x hx e => (hF _ e).elim (h x hx).2 (fun q => by have := (h x hx).1.lt; omega)⟩, fun x hx => blk_kp (h x hx).1 k (h x hx).2⟩
theorem wb_new (n : Int) (hb : Below w.heap.size w W) (hp : ∀ x ∈ ps, Blk W x.1 35 (fc x.2)) : Calls Tryz.prog 5 #[.int .i64 n] W fun e w' => ∃ g, e = .returned (.pointer (some ⟨g, 0, none⟩)) ∧ WB w w' W.heap.size g ps (Gc.new (kOf n)) :=
  (wi_new n hb).mono fun e w' ⟨g, h1, h2, h3⟩ => ⟨g, h1, ⟨⟨_, h2, fun x hx e => by have := (hp x hx).lt; omega⟩, fun x hx => (hp x hx).below h3⟩⟩
theorem wb_len (h : WB w W B g ps c) : Calls Tryz.prog 7 #[.pointer (some ⟨g, 0, none⟩)] W fun e w' => e = .returned (.int .i64 c.n) ∧ w' = W := by
  obtain ⟨F, h1, _⟩ := h.out
  exact wi_len h1
theorem wb_mac (h : WB w W B g ps c) (j : Nat) (hj : j < c.n) : Calls Tryz.prog 14 #[.pointer (some ⟨g, 0, none⟩), .int .i64 j] W fun e w' => ∃ q, e = .returned (.pointer (some ⟨q, 0, none⟩)) ∧ Nf w W q (c.ms j) ∧ w' = W := by
  obtain ⟨F, h1, _⟩ := h.out
  exact wi_mac h1 j hj
theorem wb_mac_out (h : WB w W B g ps c) (j : Int) (hj : j < 0 ∨ (c.n : Int) ≤ j) : Calls Tryz.prog 14 #[.pointer (some ⟨g, 0, none⟩), .int .i64 j] W fun e w' => e = .returned (.pointer none) ∧ w' = W := by
  obtain ⟨F, h1, _⟩ := h.out
  exact wi_mac_out h1 j hj
theorem wb_ask (h : WB w W B g ps c) (j : Nat) (hj : j < c.n) (f : Fm) (hf : f.wf) : Calls Tryz.prog 9 #[.pointer (some ⟨g, 0, none⟩), .int .i64 j, fv f] W fun e w' =>
    e = .returned (.int .i64 ((c.ms j).ask f).2) ∧ WB w w' B g ps (c.ask j f) := by
  obtain ⟨F, h1, h2⟩ := h.out
  exact (wi_ask h1 j hj f hf).mono fun e w' ⟨F', k1, k2, k3, k4⟩ => ⟨k1, WB.next (fun x hx => ⟨h.box x hx, h2 x hx⟩) k2 k3 k4⟩
theorem wb_ask_out (h : WB w W B g ps c) (j : Int) (hj : j < 0 ∨ (c.n : Int) ≤ j) (f : Fm) : Calls Tryz.prog 9 #[.pointer (some ⟨g, 0, none⟩), .int .i64 j, fv f] W fun e w' =>
    e = .returned (.int .i64 141) ∧ WB w w' B g ps c := by
  obtain ⟨F, h1, h2⟩ := h.out
  exact (wi_ask_out h1 j hj f).mono fun e w' ⟨k1, _, k3⟩ => ⟨k1, h.later k3⟩
theorem wb_heard (h : WB w W B g ps c) (j : Nat) (hj : j < c.n) : Calls Tryz.prog 13 #[.pointer (some ⟨g, 0, none⟩), .int .i64 j] W fun e w' => ∃ v, e = .returned v ∧ Evs w' W.heap.size v (c.hs j) ∧ Below W.heap.size W w' ∧ WB w w' B g ps c := by
  obtain ⟨F, h1, h2⟩ := h.out
  exact (wi_heard h1 j hj).mono fun e w' ⟨v, k1, k2, k3, _⟩ => ⟨v, k1, k2, k3, h.later k3⟩
theorem wb_heard_out (h : WB w W B g ps c) (j : Int) (hj : j < 0 ∨ (c.n : Int) ≤ j) : Calls Tryz.prog 13 #[.pointer (some ⟨g, 0, none⟩), .int .i64 j] W fun e w' => e = .returned (.slice none 0 0) ∧ w' = W := by
  obtain ⟨F, h1, h2⟩ := h.out
  exact wi_heard_out h1 j hj
theorem wb_step (h : WB w W B g ps c) (flip : Bool) (hn : c.bn ≤ 1000000) : Calls Tryz.prog 11 #[.pointer (some ⟨g, 0, none⟩), .bool flip] W fun e w' =>
    ∃ v, e = .returned v ∧ WB w w' B g ps (c.step flip) ∧ Evs w' W.heap.size v (c.evs flip) := by
  obtain ⟨F, h1, h2⟩ := h.out
  exact (wi_step h1 flip hn).mono fun e w' ⟨v, F', k1, k2, k3, k4, k5, _⟩ => ⟨v, k1, WB.next (fun x hx => ⟨h.box x hx, h2 x hx⟩) k2 k4 k5, k3⟩
end Go.Proofs.YtpkpnaedacefaaaGreat.WireW
