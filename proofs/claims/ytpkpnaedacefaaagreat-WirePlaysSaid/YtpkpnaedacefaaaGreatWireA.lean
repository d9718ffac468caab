/- Nodes on one wire, in plain Lean, with no program in sight. -/
import Derived.Test.YtpkpnaedacefaaaGreatMacFine
import Derived.Test.YtpkpnaedacefaaaGreatMacEvs
import Derived.Test.YtpkpnaedacefaaaGreatBusA
namespace Go.Proofs.YtpkpnaedacefaaaGreat.WireN
set_option linter.unusedVariables false
set_option linter.unusedSimpArgs false
open Go Go.Proofs.YtpkpnaedacefaaaGreat.Mac Go.Proofs.YtpkpnaedacefaaaGreat.MacW

/-- A node on the wire, what it heard lately. -/
structure Nh where
  m : M
  h : List Ev
/-- The latest events. -/
def keep (l : List Ev) : List Ev := l.drop (l.length - 100)
def Nh.sample (x : Nh) (c : Bool) : Nh := ⟨(x.m.sample c).1, keep (x.h ++ (x.m.sample c).2)⟩
/-- A wire: its nodes, the bits that it keeps, their number, whether the next one is turned. -/
structure Wr where
  ns : List Nh
  l : List UInt8
  n : Nat
  t : Bool
def Wr.new (k : Nat) : Wr := ⟨List.replicate k ⟨M.new, []⟩, [], 0, false⟩
/-- What all drive; the bit on the wire. -/
def allOne (ns : List Nh) : Bool := ns.all fun x => x.m.drive
def Wr.bit (w : Wr) (flip : Bool) : Bool := allOne w.ns != (w.t || flip)
/-- The row of bits, with one more. -/
def more (l : List UInt8) (c : Bool) : List UInt8 := (if 8000 ≤ l.length then l.drop (l.length - 4000) else l) ++ [if c then 49 else 48]
def Wr.step (w : Wr) (flip : Bool) : Wr × List Ev :=
  (⟨w.ns.map fun x => x.sample (w.bit flip), more w.l (w.bit flip), w.n + 1, false⟩, w.ns.flatMap fun x => (x.m.sample (w.bit flip)).2)
def setM (ns : List Nh) (i : Nat) (m : M) : List Nh := ns.modify i fun x => { x with m := m }
def Wr.ask (w : Wr) (i : Nat) (f : Fm) : Wr × Int :=
  match w.ns[i]? with
  | none => (w, 141)
  | some x => ({ w with ns := setM w.ns i (x.m.ask f).1 }, (x.m.ask f).2)
theorem keep_len (l : List Ev) : (keep l).length ≤ 100 := by unfold keep; rw [List.length_drop]; omega
theorem more_len (l : List UInt8) (c : Bool) (h : l.length ≤ 8000) : (more l c).length ≤ 8000 := by
  unfold more
  split <;> simp <;> omega
theorem sample_short (m : M) (c : Bool) : (m.sample c).2.length ≤ 3 := by
  have hf : ∀ (m : M) x, (m.flags x).2.length ≤ 2 := fun m x => by unfold M.flags; split <;> simp
  have hh : ∀ (m : M) c, (m.hears c).2.length ≤ 2 := fun m c => by
    unfold M.hears
    split
    · exact hf _ _
    · split <;> simp
  unfold M.sample
  split; · split <;> simp [M.begins]
  split
  · split
    · unfold M.sends
      split; · have := hh m.done c; simp only [List.length_cons]; omega
      split; · exact Nat.le_succ_of_le (hf _ _)
      split; · exact Nat.le_succ_of_le (hf _ _)
      split <;> simp
    · exact Nat.le_succ_of_le (hh m c)
  split; · simp
  split; · simp
  split; · simp
  split; · simp
  split
  · split <;> simp [M.begins]
  simp
end Go.Proofs.YtpkpnaedacefaaaGreat.WireN


/- A wire in memory; what a call on it may change. -/
namespace Go.Proofs.YtpkpnaedacefaaaGreat.WireW
set_option linter.unusedVariables false
set_option linter.unusedSimpArgs false
open Go Go.RowKit Go.Proofs.YtpkpnaedacefaaaGreat.Lib Go.Proofs.YtpkpnaedacefaaaGreat.Mac Go.Proofs.YtpkpnaedacefaaaGreat.MacW Go.Proofs.YtpkpnaedacefaaaGreat.WireN Go.Proofs.YtpkpnaedacefaaaGreat.BusW

/-- W' is as W was, but for the blocks of F and new ones. -/
structure Kp (F : Nat → Prop) (W W' : World) : Prop where
  os : W'.os = W.os
  tape : W'.tape = W.tape
  output : W'.output = W.output
  size : W.heap.size ≤ W'.heap.size
  block : ∀ k, k < W.heap.size → ¬ F k → W'.heap[k]? = W.heap[k]?
theorem Kp.refl (F : Nat → Prop) (W : World) : Kp F W W := ⟨rfl, rfl, rfl, Nat.le_refl _, fun _ _ _ => rfl⟩
theorem Kp.trans {F F' : Nat → Prop} {a b c : World} (h : Kp F a b) (k : Kp F' b c) (hF : ∀ i, F' i → F i ∨ a.heap.size ≤ i) : Kp F a c :=
  ⟨k.os.trans h.os, k.tape.trans h.tape, k.output.trans h.output, Nat.le_trans h.size k.size, fun i hi hn => (k.block i (Nat.lt_of_lt_of_le hi h.size) (fun e => (hF i e).elim hn (fun q => absurd hi (Nat.not_lt.2 q)))).trans (h.block i hi hn)⟩
theorem Kp.mono {F F' : Nat → Prop} {a b : World} (h : Kp F a b) (hF : ∀ i, F i → F' i) : Kp F' a b := ⟨h.os, h.tape, h.output, h.size, fun i hi hn => h.block i hi (fun e => hn (hF i e))⟩
theorem Kp.of_grown {W W' : World} {o : Option Nat} (h : W.grownBy W' o) : Kp (fun i => o = some i) W W' := ⟨h.os, h.tape, h.output, h.size, fun i hi hn => h.block i hi (fun e => hn e.symm)⟩
theorem Kp.of_below {W W' : World} (h : Below W.heap.size W W') (F : Nat → Prop) : Kp F W W' := ⟨h.os, h.tape, h.output, h.size, fun i hi _ => h.block i hi⟩
theorem Kp.drew {F : Nat → Prop} {W W' : World} (h : Kp F W W') : Kp F W W'.drew := ⟨h.os, h.tape, h.output, h.size, h.block⟩
theorem Kp.alloc {F : Nat → Prop} {W W' : World} (h : Kp F W W') (o : Obj) : Kp F W (W'.alloc o) :=
  h.trans (F' := fun _ => False) ⟨rfl, rfl, rfl, by simp, fun i hi _ => Below.heap_alloc W' o i hi⟩ (fun _ e => e.elim)
theorem Kp.set {F : Nat → Prop} {W W' : World} (h : Kp F W W') (p : Addr) (u : Value) (hp : F p.block ∨ W.heap.size ≤ p.block) : Kp F W (W'.setCell p u) :=
  h.trans (F' := fun i => i = p.block) ⟨rfl, rfl, rfl, by simp [World.setCell], fun i _ hn => Below.heap_setCell W' p u i hn⟩ (fun i e => e ▸ hp)
theorem Kp.below {F : Nat → Prop} {w0 W W' : World} {B : Nat} (h : Kp F W W') (hb : Below B w0 W) (hB : B ≤ W.heap.size) (hF : ∀ i, F i → B ≤ i) : Below B w0 W' :=
  hb.trans ⟨h.os, h.tape, h.output, h.size, fun i hi => h.block i (Nat.lt_of_lt_of_le hi hB) (fun e => absurd hi (Nat.not_lt.2 (hF i e)))⟩
theorem Kp.of_kept2 {W W' : World} {g : Nat} {r : Option Nat} (h : Kept2 W W' g r) : Kp (fun i => i = g ∨ r = some i) W W' :=
  ⟨h.os, h.tape, h.output, h.size, fun i hi hn => h.block i hi (fun e => hn (.inl e)) (fun e => hn (.inr e.symm))⟩
theorem blk_kp {F : Nat → Prop} {W W' : World} {g : Nat} {t : TypeId} {cs : List Value} (h : Blk W g t cs) (k : Kp F W W') (hn : ¬ F g) : Blk W' g t cs := (k.block g h.lt hn).trans h
theorem owns_kp {F : Nat → Prop} {W W' : World} {b : Nat} {e : TypeId} {s : Nat} {v : Value} {n : Nat} {xs : List Value} (h : W.ownsRow b e s v n xs) (k : Kp F W W') (hn : ∀ i, v.ownBlock = some i → ¬ F i) : W'.ownsRow b e s v n xs := by
  refine ⟨h.1, ?_⟩
  rcases h.2 with q | ⟨g, cap, cur, rfl, h3, h4, h5⟩
  · exact .inl q
  · exact .inr ⟨g, cap, cur, rfl, h3, (k.block g (Array.getElem?_eq_some_iff.1 h4).1 (hn g rfl)).trans h4, h5⟩
theorem nf_kp {F : Nat → Prop} {w0 W W' : World} {g : Nat} {m : M} (h : Nf w0 W g m) (k : Kp F W W') (hn : ¬ F g) (hF : ∀ i, F i → w0.heap.size ≤ i) : Nf w0 W' g m :=
  ⟨⟨blk_kp h.nd.blk k hn, k.below h.nd.below h.nd.below.size hF, h.nd.le⟩, h.fine⟩
theorem bus_kp {F : Nat → Prop} {W W' : World} {b g : Nat} {v : Value} {l : List UInt8} {n : Int} {t : Bool} (h : IsBus W b g v l n t) (k : Kp F W W') (h1 : ¬ F g) (h2 : ∀ i, v.ownBlock = some i → ¬ F i) : IsBus W' b g v l n t :=
  ⟨h.1, blk_kp h.2.1 k h1, owns_kp h.2.2 k h2⟩
theorem owns_ne {W : World} {b g : Nat} {e T : TypeId} {s n : Nat} {v : Value} {xs cs : List Value} (h : W.ownsRow b e s v n xs) (hb : Blk W g T cs) (hT : T ≠ e) : v.ownBlock ≠ some g := by
  rcases h.2 with ⟨rfl, _⟩ | ⟨g', cap, cur, rfl, _, hg, _⟩
  · simp [Value.ownBlock]
  · intro e2
    simp only [Value.ownBlock, Option.some.injEq] at e2
    subst e2
    unfold Blk at hb
    rw [hg] at hb
    simp at hb
    exact hT hb.2.symm
theorem owns_ne2 {W : World} {b b' : Nat} {e e' : TypeId} {s s' n n' : Nat} {v v' : Value} {xs xs' : List Value} (h : W.ownsRow b e s v n xs) (h' : W.ownsRow b' e' s' v' n' xs') (hT : e ≠ e') {k : Nat} (hv : v.ownBlock = some k) : v'.ownBlock ≠ some k := by
  rcases h.2 with ⟨rfl, _⟩ | ⟨g, cap, cur, rfl, _, hg, _⟩
  · simp [Value.ownBlock] at hv
  · simp only [Value.ownBlock, Option.some.injEq] at hv
    subst hv
    intro e2
    rcases h'.2 with ⟨rfl, _⟩ | ⟨g', cap', cur', rfl, _, hg', _⟩
    · simp [Value.ownBlock] at e2
    · simp only [Value.ownBlock, Option.some.injEq] at e2
      subst e2
      rw [hg] at hg'
      simp at hg'
      exact hT hg'.2
theorem owns_lt {W : World} {b : Nat} {e : TypeId} {s n : Nat} {v : Value} {xs : List Value} (h : W.ownsRow b e s v n xs) {k : Nat} (hv : v.ownBlock = some k) : b ≤ k ∧ k < W.heap.size := World.ownsRow.lt h k hv

def upd {α : Type} (f : Nat → α) (i : Nat) (x : α) : Nat → α := fun k => if k = i then x else f k
theorem upd_at {α : Type} (f : Nat → α) (i : Nat) (x : α) : upd f i x i = x := if_pos rfl
theorem upd_ne {α : Type} (f : Nat → α) {i k : Nat} (x : α) (h : k ≠ i) : upd f i x k = f k := if_neg h
/-- Where a wire's parts lie. -/
structure Ga where
  gw : Nat
  gr : Nat
  gb : Nat
  gs : Nat → Nat
  vs : Nat → Value
  bv : Value
/-- What they hold. -/
structure Gc where
  n : Nat
  ms : Nat → M
  hs : Nat → List Ev
  l : List UInt8
  bn : Nat
  t : Bool
/-- A row of bytes. -/
def U8 (W : World) (k : Nat) : Prop := ∃ cs z, W.heap[k]? = some (.cells cs 5 z)
/-- Its blocks; every row of bytes from B on counts as its own. -/
def Ga.foot (a : Ga) (B n : Nat) (W : World) (k : Nat) : Prop := k = a.gw ∨ k = a.gr ∨ k = a.gb ∨ (∃ i, i < n ∧ k = a.gs i) ∨ (∃ i, i < n ∧ (a.vs i).ownBlock = some k) ∨ (B ≤ k ∧ U8 W k)
theorem own_u8 {W : World} {b : Nat} {v : Value} {l : List UInt8} (h : OwnB W b 5 v l) {k : Nat} (hk : v.ownBlock = some k) : b ≤ k ∧ U8 W k := by
  rcases h.2 with ⟨rfl, _⟩ | ⟨g, cap, cur, rfl, h3, h4, _⟩
  · simp [Value.ownBlock] at hk
  · simp only [Value.ownBlock, Option.some.injEq] at hk
    subst hk
    exact ⟨h3, _, _, h4⟩
theorem u8_lt {W : World} {k : Nat} (h : U8 W k) : k < W.heap.size := by
  obtain ⟨cs, z, h⟩ := h
  exact (Array.getElem?_eq_some_iff.1 h).1
theorem blk_not8 {W : World} {g : Nat} {T : TypeId} {cs : List Value} (h : Blk W g T cs) (hT : T ≠ 5) : ¬ U8 W g := by
  rintro ⟨xs, z, e⟩
  unfold Blk at h
  rw [h] at e
  simp at e
  exact hT e.2.1
theorem owns_not8 {W : World} {b : Nat} {e : TypeId} {s n : Nat} {v : Value} {xs : List Value} (h : W.ownsRow b e s v n xs) (hT : e ≠ 5) {k : Nat} (hk : v.ownBlock = some k) : ¬ U8 W k := by
  rcases h.2 with ⟨rfl, _⟩ | ⟨g, cap, cur, rfl, h3, h4, _⟩
  · simp [Value.ownBlock] at hk
  · simp only [Value.ownBlock, Option.some.injEq] at hk
    subst hk
    rintro ⟨ys, z, e2⟩
    rw [h4] at e2
    simp at e2
    exact hT e2.2.1
/-- The cells of its row of nodes. -/
def ncs (gs : Nat → Nat) (vs : Nat → Value) : Nat → List Value
  | 0 => []
  | n + 1 => ncs gs vs n ++ [.pointer (some ⟨gs n, 0, none⟩), vs n]
theorem ncs_len (gs : Nat → Nat) (vs : Nat → Value) : ∀ n, (ncs gs vs n).length = n * 2
  | 0 => rfl
  | n + 1 => by rw [ncs, List.length_append, ncs_len gs vs n]; simp; omega
theorem ncs_m (gs : Nat → Nat) (vs : Nat → Value) (i : Nat) : ∀ n, i < n → (ncs gs vs n)[i * 2]? = some (.pointer (some ⟨gs i, 0, none⟩))
  | 0, h => by omega
  | n + 1, h => by
    rw [ncs]
    by_cases hi : i < n
    · rw [List.getElem?_append_left (by rw [ncs_len]; omega)]
      exact ncs_m gs vs i n hi
    · obtain rfl : i = n := by omega
      rw [List.getElem?_append_right (by rw [ncs_len]; omega), ncs_len, Nat.sub_self]
      rfl
theorem ncs_v (gs : Nat → Nat) (vs : Nat → Value) (i : Nat) : ∀ n, i < n → (ncs gs vs n)[i * 2 + 1]? = some (vs i)
  | 0, h => by omega
  | n + 1, h => by
    rw [ncs]
    by_cases hi : i < n
    · rw [List.getElem?_append_left (by rw [ncs_len]; omega)]
      exact ncs_v gs vs i n hi
    · obtain rfl : i = n := by omega
      rw [List.getElem?_append_right (by rw [ncs_len]; omega), ncs_len, show i * 2 + 1 - i * 2 = 1 by omega]
      rfl
theorem ncs_congr {gs gs' : Nat → Nat} {vs vs' : Nat → Value} : ∀ n, (∀ i, i < n → gs i = gs' i) → (∀ i, i < n → vs i = vs' i) → ncs gs vs n = ncs gs' vs' n
  | 0, _, _ => rfl
  | n + 1, h1, h2 => by
    rw [ncs, ncs, ncs_congr n (fun i hi => h1 i (by omega)) (fun i hi => h2 i (by omega)), h1 n (by omega), h2 n (by omega)]
theorem ncs_set (gs : Nat → Nat) (vs : Nat → Value) (i : Nat) (v : Value) : ∀ n, i < n → (ncs gs vs n).set (i * 2 + 1) v = ncs gs (upd vs i v) n
  | 0, h => by omega
  | n + 1, h => by
    rw [ncs, ncs]
    by_cases hi : i < n
    · rw [List.set_append_left _ _ (by rw [ncs_len]; omega), ncs_set gs vs i v n hi, upd_ne vs v (by omega)]
    · obtain rfl : i = n := by omega
      rw [List.set_append_right _ _ (by rw [ncs_len]; omega), ncs_len, show i * 2 + 1 - i * 2 = 1 by omega, ncs_congr (vs' := upd vs i v) i (fun _ _ => rfl) (fun k hk => (upd_ne vs v (by omega)).symm), upd_at]
      rfl
/-- A wire in memory. -/
structure WM (w0 W : World) (B : Nat) (a : Ga) (c : Gc) : Prop where
  top : Blk W a.gw 63 [.slice (some ⟨a.gr, 0, none⟩) c.n c.n, .pointer (some ⟨a.gb, 0, none⟩)]
  row : Blk W a.gr 66 (ncs a.gs a.vs c.n)
  node : ∀ i, i < c.n → Nf w0 W (a.gs i) (c.ms i)
  heard : ∀ i, i < c.n → Evs W B (a.vs i) (c.hs i)
  short : ∀ i, i < c.n → (c.hs i).length ≤ 200
  bus : IsBus W B a.gb a.bv c.l c.bn c.t
  inj : ∀ i j, i < c.n → j < c.n → a.gs i = a.gs j → i = j
  apart : ∀ i j k, i < c.n → j < c.n → (a.vs i).ownBlock = some k → (a.vs j).ownBlock = some k → i = j
  below : Below w0.heap.size w0 W
  le : w0.heap.size ≤ B
  lw : B ≤ a.gw
  lr : B ≤ a.gr
  lg : ∀ i, i < c.n → B ≤ a.gs i
  pos : 1 ≤ c.n
  most : c.n ≤ 8
  ll : c.l.length ≤ 8000
theorem WM.foot_le {w0 W : World} {B : Nat} {a : Ga} {c : Gc} (h : WM w0 W B a c) {k : Nat} (hk : a.foot B c.n W k) : B ≤ k ∧ k < W.heap.size := by
  rcases hk with rfl | rfl | rfl | ⟨i, hi, rfl⟩ | ⟨i, hi, e⟩ | ⟨e1, e2⟩
  · exact ⟨h.lw, h.top.lt⟩
  · exact ⟨h.lr, h.row.lt⟩
  · exact ⟨h.bus.1, h.bus.2.1.lt⟩
  · exact ⟨h.lg i hi, (h.node i hi).nd.blk.lt⟩
  · exact owns_lt (h.heard i hi) e
  · exact ⟨e1, u8_lt e2⟩
theorem WM.size {w0 W : World} {B : Nat} {a : Ga} {c : Gc} (h : WM w0 W B a c) : B ≤ W.heap.size := Nat.le_trans h.lw (Nat.le_of_lt h.top.lt)
/-- Its blocks, strictly. -/
def Ga.own (a : Ga) (n k : Nat) : Prop := k = a.gw ∨ k = a.gr ∨ k = a.gb ∨ (∃ i, i < n ∧ k = a.gs i) ∨ (∃ i, i < n ∧ (a.vs i).ownBlock = some k) ∨ a.bv.ownBlock = some k
/-- What is done elsewhere. -/
theorem WM.kpo {F : Nat → Prop} {w0 W W' : World} {B : Nat} {a : Ga} {c : Gc} (h : WM w0 W B a c) (k : Kp F W W') (hn : ∀ i, a.own c.n i → ¬ F i) (hF : ∀ i, F i → w0.heap.size ≤ i) : WM w0 W' B a c :=
  ⟨blk_kp h.top k (hn _ (.inl rfl)), blk_kp h.row k (hn _ (.inr (.inl rfl))), fun i hi => nf_kp (h.node i hi) k (hn _ (.inr (.inr (.inr (.inl ⟨i, hi, rfl⟩))))) hF,
    fun i hi => owns_kp (h.heard i hi) k (fun q e => hn q (.inr (.inr (.inr (.inr (.inl ⟨i, hi, e⟩)))))), h.short, bus_kp h.bus k (hn _ (.inr (.inr (.inl rfl)))) (fun q e => hn q (.inr (.inr (.inr (.inr (.inr e)))))),
    h.inj, h.apart, k.below h.below h.below.size hF, h.le, h.lw, h.lr, h.lg, h.pos, h.most, h.ll⟩
theorem WM.kp {F : Nat → Prop} {w0 W W' : World} {B : Nat} {a : Ga} {c : Gc} (h : WM w0 W B a c) (k : Kp F W W') (hn : ∀ i, a.foot B c.n W i → ¬ F i) (hF : ∀ i, F i → w0.heap.size ≤ i) : WM w0 W' B a c :=
  h.kpo k (fun i e => hn i (by
    rcases e with e | e | e | e | e | e
    · exact .inl e
    · exact .inr (.inl e)
    · exact .inr (.inr (.inl e))
    · exact .inr (.inr (.inr (.inl e)))
    · exact .inr (.inr (.inr (.inr (.inl e))))
    · exact .inr (.inr (.inr (.inr (.inr (own_u8 h.bus.2.2 e))))))) hF
theorem WM.new {w0 W W' : World} {B : Nat} {a : Ga} {c : Gc} (h : WM w0 W B a c) (k : Below W.heap.size W W') : WM w0 W' B a c :=
  h.kpo (F := fun _ => False) (Kp.of_below k _) (fun _ _ e => e) (fun _ e => e.elim)
theorem WM.drew {w0 W : World} {B : Nat} {a : Ga} {c : Gc} (h : WM w0 W B a c) : WM w0 W.drew B a c := h.new (Below.refl _ W).drew
theorem WM.congr {w0 W : World} {B : Nat} {a : Ga} {c c' : Gc} (h : WM w0 W B a c) (hn : c'.n = c.n) (h1 : ∀ i, i < c.n → c'.ms i = c.ms i) (h2 : ∀ i, i < c.n → c'.hs i = c.hs i) (hl : c'.l = c.l) (hb : c'.bn = c.bn) (ht : c'.t = c.t) : WM w0 W B a c' := by
  obtain ⟨n, ms, hs, l, bn, t⟩ := c
  obtain ⟨n', ms', hs', l', bn', t'⟩ := c'
  simp only at hn h1 h2 hl hb ht
  subst hn hl hb ht
  exact ⟨h.top, h.row, fun i hi => (congrArg (Nf w0 W (a.gs i)) (h1 i hi)).mpr (h.node i hi), fun i hi => (congrArg (Evs W B (a.vs i)) (h2 i hi)).mpr (h.heard i hi), fun i hi => (congrArg (fun x => List.length x ≤ 200) (h2 i hi)).mpr (h.short i hi), h.bus, h.inj, h.apart, h.below, h.le, h.lw, h.lr, h.lg, h.pos, h.most, h.ll⟩
/-- One node's turn. -/
theorem WM.node_at {w0 W W' : World} {B : Nat} {a : Ga} {c : Gc} {i : Nat} {m : M} (h : WM w0 W B a c) (hi : i < c.n) (k : W.grownBy W' (some (a.gs i))) (hm : Nf w0 W' (a.gs i) m) : WM w0 W' B a { c with ms := upd c.ms i m } := by
  have hb := (h.node i hi).nd.blk
  have kk : Kp (fun q => q = a.gs i) W W' := (Kp.of_grown k).mono (fun q e => by injection e with e; exact e.symm)
  have hF : ∀ q, q = a.gs i → w0.heap.size ≤ q := fun q e => by subst e; exact Nat.le_trans h.le (h.lg i hi)
  refine ⟨blk_kp h.top kk (h.top.ne hb (by decide)), blk_kp h.row kk (h.row.ne hb (by decide)), fun j hj => ?_,
    fun j hj => owns_kp (h.heard j hj) kk (fun q e e2 => by subst e2; exact owns_ne (h.heard j hj) hb (by decide) e), h.short, bus_kp h.bus kk (h.bus.2.1.ne hb (by decide)) (fun q e e2 => by subst e2; exact owns_ne h.bus.2.2 hb (by decide) e),
    h.inj, h.apart, kk.below h.below h.below.size hF, h.le, h.lw, h.lr, h.lg, h.pos, h.most, h.ll⟩
  show Nf w0 W' (a.gs j) (upd c.ms i m j)
  by_cases hji : j = i
  · subst hji; rw [upd_at]; exact hm
  · rw [upd_ne _ _ hji]
    exact nf_kp (h.node j hj) kk (fun e => hji (h.inj j i hj hi e)) hF
/-- What a node heard is another row. -/
theorem WM.heard_at {w0 W W' : World} {B : Nat} {a : Ga} {c : Gc} {i : Nat} {L : List Ev} {v : Value} (h : WM w0 W B a c) (hi : i < c.n) (k : W.grownBy W' (a.vs i).ownBlock) (hv : v.ownBlock = (a.vs i).ownBlock ∨ ∃ q, v.ownBlock = some q ∧ W.heap.size ≤ q)
    (hL : Evs W' B v L) (hs : L.length ≤ 200) : WM w0 (W'.setCell ⟨a.gr, i * 2 + 1, none⟩ v) B { a with vs := upd a.vs i v } { c with hs := upd c.hs i L } := by
  have k1 := Kp.of_grown k
  have hR : (a.vs i).ownBlock ≠ some a.gr := owns_ne (h.heard i hi) h.row (by decide)
  have hvR : v.ownBlock ≠ some a.gr := fun e => by
    rcases hv with e2 | ⟨q, e2, hq⟩
    · rw [e2] at e; exact hR e
    · rw [e2] at e; injection e with e; have := h.row.lt; omega
  have r1 : Blk W' a.gr 66 (ncs a.gs a.vs c.n) := blk_kp h.row k1 hR
  have kk : Kp (fun q => (a.vs i).ownBlock = some q ∨ q = a.gr) W (W'.setCell ⟨a.gr, i * 2 + 1, none⟩ v) := (k1.mono (fun q e => .inl e)).set _ _ (.inl (.inr rfl))
  have k2 : Kp (fun q => q = a.gr) W' (W'.setCell ⟨a.gr, i * 2 + 1, none⟩ v) := (Kp.refl _ _).set _ _ (.inl rfl)
  have hF : ∀ q, ((a.vs i).ownBlock = some q ∨ q = a.gr) → w0.heap.size ≤ q := fun q e => by
    rcases e with e | rfl
    · exact Nat.le_trans h.le (owns_lt (h.heard i hi) e).1
    · exact Nat.le_trans h.le h.lr
  have nb : ∀ {g : Nat} {T : TypeId} {cs : List Value}, Blk W g T cs → T ≠ 60 → T ≠ 66 → ¬ ((a.vs i).ownBlock = some g ∨ g = a.gr) := fun {g T cs} hb h1 h2 e => by
    rcases e with e | e
    · exact owns_ne (h.heard i hi) hb h1 e
    · exact hb.ne h.row h2 e
  have r2 : Blk (W'.setCell ⟨a.gr, i * 2 + 1, none⟩ v) a.gr 66 (ncs a.gs (upd a.vs i v) c.n) := by
    have := r1.set (i * 2 + 1) v
    rw [ncs_set a.gs a.vs i v c.n hi] at this
    exact this
  refine ⟨blk_kp h.top kk (nb h.top (by decide) (by decide)), r2, fun j hj => nf_kp (h.node j hj) kk (nb (h.node j hj).nd.blk (by decide) (by decide)) hF, fun j hj => ?_, fun j hj => ?_,
    bus_kp h.bus kk (nb h.bus.2.1 (by decide) (by decide)) (fun q e e2 => ?_), h.inj, fun j j' q hj hj' e e' => ?_, kk.below h.below h.below.size hF, h.le, h.lw, h.lr, h.lg, h.pos, h.most, h.ll⟩
  · show Evs _ B (upd a.vs i v j) (upd c.hs i L j)
    by_cases hji : j = i
    · subst hji; rw [upd_at, upd_at]
      exact owns_kp hL k2 (fun q e e2 => hvR (e.trans (congrArg some e2)))
    · rw [upd_ne _ _ hji, upd_ne _ _ hji]
      refine owns_kp (h.heard j hj) kk (fun q e e2 => ?_)
      rcases e2 with e2 | e2
      · exact hji (h.apart j i q hj hi e e2)
      · exact owns_ne (h.heard j hj) h.row (by decide) (e.trans (congrArg some e2))
  · show (upd c.hs i L j).length ≤ 200
    by_cases hji : j = i
    · subst hji; rw [upd_at]; exact hs
    · rw [upd_ne _ _ hji]; exact h.short j hj
  · rcases e2 with e2 | e2
    · exact owns_ne2 h.bus.2.2 (h.heard i hi) (by decide) e e2
    · exact owns_ne h.bus.2.2 h.row (by decide) (e.trans (congrArg some e2))
  · change (upd a.vs i v j).ownBlock = some q at e
    change (upd a.vs i v j').ownBlock = some q at e'
    by_cases h1 : j = i
    · by_cases h2 : j' = i
      · rw [h1, h2]
      · subst h1
        rw [upd_at] at e
        rw [upd_ne _ _ h2] at e'
        rcases hv with e2 | ⟨q', e2, hq⟩
        · exact h.apart j j' q hj hj' (e2 ▸ e) e'
        · have := (owns_lt (h.heard j' hj') e').2
          rw [e2] at e; injection e with e; omega
    · rw [upd_ne _ _ h1] at e
      by_cases h2 : j' = i
      · subst h2
        rw [upd_at] at e'
        rcases hv with e2 | ⟨q', e2, hq⟩
        · exact h.apart j j' q hj hj' e (e2 ▸ e')
        · have := (owns_lt (h.heard j hj) e).2
          rw [e2] at e'; injection e' with e'; omega
      · rw [upd_ne _ _ h2] at e'
        exact h.apart j j' q hj hj' e e'
/-- The bus's turn. -/
theorem WM.bus_at {w0 W W' : World} {B : Nat} {a : Ga} {c : Gc} {v : Value} {l : List UInt8} {n : Nat} {t : Bool} (h : WM w0 W B a c) (k : Kept2 W W' a.gb a.bv.ownBlock) (hb : IsBus W' B a.gb v l n t) (hl : l.length ≤ 8000) : WM w0 W' B { a with bv := v } { c with l := l, bn := n, t := t } := by
  have kk := Kp.of_kept2 k
  have nb : ∀ {g : Nat} {T : TypeId} {cs : List Value}, Blk W g T cs → T ≠ 86 → T ≠ 5 → ¬ (g = a.gb ∨ a.bv.ownBlock = some g) := fun {g T cs} hb h1 h2 e => by
    rcases e with e | e
    · exact hb.ne h.bus.2.1 h1 e
    · exact owns_ne h.bus.2.2 hb h2 e
  have hF : ∀ q, (q = a.gb ∨ a.bv.ownBlock = some q) → w0.heap.size ≤ q := fun q e => by
    rcases e with rfl | e
    · exact Nat.le_trans h.le h.bus.1
    · exact Nat.le_trans h.le (owns_lt h.bus.2.2 e).1
  refine ⟨blk_kp h.top kk (nb h.top (by decide) (by decide)), blk_kp h.row kk (nb h.row (by decide) (by decide)), fun j hj => nf_kp (h.node j hj) kk (nb (h.node j hj).nd.blk (by decide) (by decide)) hF,
    fun j hj => owns_kp (h.heard j hj) kk (fun q e e2 => ?_), h.short, hb, h.inj, h.apart, kk.below h.below h.below.size hF, h.le, h.lw, h.lr, h.lg, h.pos, h.most, hl⟩
  rcases e2 with e2 | e2
  · exact owns_ne (h.heard j hj) h.bus.2.1 (by decide) (e.trans (congrArg some e2))
  · exact owns_ne2 (h.heard j hj) h.bus.2.2 (by decide) e e2
end Go.Proofs.YtpkpnaedacefaaaGreat.WireW


/- The walks of package wire: what a wire tells. -/
namespace Go.Proofs.YtpkpnaedacefaaaGreat.WireW
set_option linter.unusedVariables false
set_option linter.unusedSimpArgs false
open Go Go.RowKit Go.Proofs.YtpkpnaedacefaaaGreat.Lib Go.Proofs.YtpkpnaedacefaaaGreat.Bits Go.Proofs.YtpkpnaedacefaaaGreat.BitsW Go.Proofs.YtpkpnaedacefaaaGreat.Mac Go.Proofs.YtpkpnaedacefaaaGreat.MacW Go.Proofs.YtpkpnaedacefaaaGreat.WireN Go.Proofs.YtpkpnaedacefaaaGreat.BusW Go.Proofs.YtpkpnaedacefaaaGreat.PrintMore
attribute [local go_sem] max2_int min2_int max_two min_two
theorem WM.c0 {w0 W : World} {B : Nat} {a : Ga} {c : Gc} (h : WM w0 W B a c) : W.cell? ⟨a.gw, 0, none⟩ = some (.slice (some ⟨a.gr, 0, none⟩) c.n c.n) := h.top.cell 0
theorem WM.c1 {w0 W : World} {B : Nat} {a : Ga} {c : Gc} (h : WM w0 W B a c) : W.cell? ⟨a.gw, 1, none⟩ = some (.pointer (some ⟨a.gb, 0, none⟩)) := h.top.cell 1
theorem WM.rm {w0 W : World} {B : Nat} {a : Ga} {c : Gc} (h : WM w0 W B a c) {i : Nat} (hi : i < c.n) : W.cell? ⟨a.gr, i * 2, none⟩ = some (.pointer (some ⟨a.gs i, 0, none⟩)) := (h.row.cell _).trans (ncs_m a.gs a.vs i c.n hi)
theorem WM.rv {w0 W : World} {B : Nat} {a : Ga} {c : Gc} (h : WM w0 W B a c) {i : Nat} (hi : i < c.n) : W.cell? ⟨a.gr, i * 2 + 1, none⟩ = some (a.vs i) := (h.row.cell _).trans (ncs_v a.gs a.vs i c.n hi)
theorem WM.v_slice {w0 W : World} {B : Nat} {a : Ga} {c : Gc} (h : WM w0 W B a c) {i : Nat} (hi : i < c.n) : ∃ p cap, a.vs i = .slice p (c.hs i).length cap := by
  obtain ⟨p, cap, e, _⟩ := evs_slice (h.heard i hi)
  exact ⟨p, cap, e⟩
set_option maxRecDepth 100000 in
set_option maxHeartbeats 1600000 in
theorem len_wire {w0 W : World} {B : Nat} {a : Ga} {c : Gc} (h : WM w0 W B a c) : Calls Tryz.prog 7 #[.pointer (some ⟨a.gw, 0, none⟩)] W fun e w' => e = .returned (.int .i64 c.n) ∧ w' = W := by
  have c0 := h.c0
  clear h
  go_enter Tryz.func7, Tryz.ntmps7
  go_wp2_with fail
  go_ret
  exact ⟨rfl, rfl⟩
set_option maxRecDepth 100000 in
set_option maxHeartbeats 1600000 in
theorem bus_wire {w0 W : World} {B : Nat} {a : Ga} {c : Gc} (h : WM w0 W B a c) : Calls Tryz.prog 16 #[.pointer (some ⟨a.gw, 0, none⟩)] W fun e w' => e = .returned (.pointer (some ⟨a.gb, 0, none⟩)) ∧ w' = W := by
  have c1 := h.c1
  clear h
  go_enter Tryz.func16, Tryz.ntmps16
  go_wp2_with fail
  go_ret
  exact ⟨rfl, rfl⟩
set_option maxRecDepth 100000 in
set_option maxHeartbeats 1600000 in
theorem mac_in {w0 W : World} {B : Nat} {a : Ga} {c : Gc} (h : WM w0 W B a c) (j : Nat) (hj : j < c.n) : Calls Tryz.prog 14 #[.pointer (some ⟨a.gw, 0, none⟩), .int .i64 j] W fun e w' => e = .returned (.pointer (some ⟨a.gs j, 0, none⟩)) ∧ w' = W := by
  have c0 := h.c0
  have rm := h.rm hj
  have u1 : ((j : Int) < 0) = False := eq_false (by omega)
  have u2 : ((j : Int) ≥ c.n) = False := eq_false (by omega)
  have u3 : decide ((j : Int) < 0) = false := decide_eq_false (by omega)
  have u4 : decide ((j : Int) ≥ c.n) = false := decide_eq_false (by omega)
  have u5 : (j < c.n) = True := eq_true hj
  clear h hj
  go_enter Tryz.func14, Tryz.ntmps14
  go_wp2_with fail
  go_ret
  exact ⟨rfl, rfl⟩
set_option maxRecDepth 100000 in
set_option maxHeartbeats 1600000 in
theorem mac_out {w0 W : World} {B : Nat} {a : Ga} {c : Gc} (h : WM w0 W B a c) (j : Int) (hj : j < 0 ∨ (c.n : Int) ≤ j) : Calls Tryz.prog 14 #[.pointer (some ⟨a.gw, 0, none⟩), .int .i64 j] W fun e w' => e = .returned (.pointer none) ∧ w' = W := by
  have c0 := h.c0
  clear h
  by_cases h0 : j < 0
  · have u3 : decide ((j : Int) < 0) = true := decide_eq_true h0
    have u1 : ((j : Int) < 0) = True := eq_true h0
    clear h0 hj
    go_enter Tryz.func14, Tryz.ntmps14
    go_wp2_with fail
    go_ret
    exact ⟨rfl, rfl⟩
  · have u1 : ((j : Int) < 0) = False := eq_false h0
    have u2 : ((j : Int) ≥ c.n) = True := eq_true (by omega)
    have u3 : decide ((j : Int) < 0) = false := decide_eq_false h0
    have u4 : decide ((j : Int) ≥ c.n) = true := decide_eq_true (by omega)
    clear h0 hj
    go_enter Tryz.func14, Tryz.ntmps14
    go_wp2_with fail
    go_ret
    exact ⟨rfl, rfl⟩
end Go.Proofs.YtpkpnaedacefaaaGreat.WireW


/- The walks of package wire: Ask, Heard. -/
namespace Go.Proofs.YtpkpnaedacefaaaGreat.WireW
set_option linter.unusedVariables false
set_option linter.unusedSimpArgs false
open Go Go.RowKit Go.Proofs.YtpkpnaedacefaaaGreat.Lib Go.Proofs.YtpkpnaedacefaaaGreat.Bits Go.Proofs.YtpkpnaedacefaaaGreat.BitsW Go.Proofs.YtpkpnaedacefaaaGreat.Mac Go.Proofs.YtpkpnaedacefaaaGreat.MacW Go.Proofs.YtpkpnaedacefaaaGreat.WireN Go.Proofs.YtpkpnaedacefaaaGreat.BusW Go.Proofs.YtpkpnaedacefaaaGreat.PrintMore
attribute [local go_sem] max2_int min2_int max_two min_two
theorem WM.alloc {w0 W : World} {B : Nat} {a : Ga} {c : Gc} (h : WM w0 W B a c) (o : Obj) : WM w0 (W.alloc o) B a c := h.new ((Below.refl _ W).alloc (Nat.le_refl _) o)
/-- A frame in a box. -/
theorem box_fr {W : World} {p : Nat} {f : Fm} (h : Blk W p 35 (fc f)) : W.cell? ⟨p, 0, none⟩ = some (.bool f.e) ∧ W.cell? ⟨p, 1, none⟩ = some (.int .u32 f.i) ∧ W.cell? ⟨p, 2, none⟩ = some (.bool f.r) ∧ W.cell? ⟨p, 3, none⟩ = some (.string f.d) :=
  ⟨h.cell 0, h.cell 1, h.cell 2, h.cell 3⟩
set_option maxRecDepth 100000 in
set_option maxHeartbeats 3200000 in
theorem ask_in {w0 W : World} {B : Nat} {a : Ga} {c : Gc} (h : WM w0 W B a c) (j : Nat) (hj : j < c.n) (f : Fm) (hf : f.wf) : Calls Tryz.prog 9 #[.pointer (some ⟨a.gw, 0, none⟩), .int .i64 j, fv f] W fun e w' =>
    e = .returned (.int .i64 ((c.ms j).ask f).2) ∧ WM w0 w' B a { c with ms := upd c.ms j ((c.ms j).ask f).1 } ∧ Kp (a.foot B c.n W) W w' := by
  obtain ⟨f0, f1, f2, f3⟩ := f
  have H2 := hid (h.alloc (.cells #[.bool f0, .int .u32 f1, .bool f2, .string f3] 35))
  obtain ⟨b0, b1, b2, b3⟩ := box_fr (f := ⟨f0, f1, f2, f3⟩) (Blk.new W (fc ⟨f0, f1, f2, f3⟩) 35)
  have HJ := hid hj
  have HF := hid hf
  have HB := hid h.size
  have HL := hid h
  clear h hj hf
  show Calls _ _ #[.pointer (some ⟨a.gw, 0, none⟩), .int .i64 j, .agg #[.bool f0, .int .u32 f1, .bool f2, .string f3]] _ _
  go_enter Tryz.func9, Tryz.ntmps9
  go_wp2_with fail
  with_reducible refine (mac_in H2.out j HJ.out).mono ?_
  rintro y w2 ⟨rfl, rfl⟩
  go_wp2_with fail
  refine (nf_ask (H2.out.node j HJ.out) ⟨f0, f1, f2, f3⟩ HF.out).mono ?_
  rintro y w3 ⟨rfl, h3, k3⟩
  have h4 := H2.out.node_at HJ.out k3 h3
  have hk : Kp (a.foot B c.n W) W w3 := ((Kp.refl (a.foot B c.n W) W).alloc _).trans (Kp.of_grown k3) (fun i e => by injection e with e; exact .inl (.inr (.inr (.inr (.inl ⟨j, HJ.out, e.symm⟩)))))
  have H4 := hid h4
  have HK := hid hk
  clear h3 k3 h4 hk
  go_wp2_with fail
  go_ret
  exact ⟨rfl, H4.out, HK.out⟩
set_option maxRecDepth 100000 in
set_option maxHeartbeats 3200000 in
theorem ask_out {w0 W : World} {B : Nat} {a : Ga} {c : Gc} (h : WM w0 W B a c) (j : Int) (hj : j < 0 ∨ (c.n : Int) ≤ j) (f : Fm) : Calls Tryz.prog 9 #[.pointer (some ⟨a.gw, 0, none⟩), .int .i64 j, fv f] W fun e w' =>
    e = .returned (.int .i64 141) ∧ WM w0 w' B a c ∧ Below W.heap.size W w' := by
  obtain ⟨f0, f1, f2, f3⟩ := f
  have H2 := hid (h.alloc (.cells #[.bool f0, .int .u32 f1, .bool f2, .string f3] 35))
  have HJ := hid hj
  have HK := hid ((Below.refl W.heap.size W).alloc (Nat.le_refl _) (.cells #[.bool f0, .int .u32 f1, .bool f2, .string f3] 35))
  clear h hj
  show Calls _ _ #[.pointer (some ⟨a.gw, 0, none⟩), .int .i64 j, .agg #[.bool f0, .int .u32 f1, .bool f2, .string f3]] _ _
  go_enter Tryz.func9, Tryz.ntmps9
  go_wp2_with fail
  with_reducible refine (mac_out H2.out j HJ.out).mono ?_
  rintro y w2 ⟨rfl, rfl⟩
  go_wp2_with fail
  go_ret
  exact ⟨rfl, H2.out, HK.out⟩
theorem below_none {W w' : World} (k : W.grownBy w' none) : Below W.heap.size W w' := ⟨k.os, k.tape, k.output, k.size, fun i hi => k.block i hi (by simp)⟩
set_option maxRecDepth 100000 in
set_option maxHeartbeats 3200000 in
theorem heard_in {w0 W : World} {B : Nat} {a : Ga} {c : Gc} (h : WM w0 W B a c) (j : Nat) (hj : j < c.n) : Calls Tryz.prog 13 #[.pointer (some ⟨a.gw, 0, none⟩), .int .i64 j] W fun e w' => ∃ v, e = .returned v ∧ Evs w' W.heap.size v (c.hs j) ∧ Below W.heap.size W w' := by
  have c0 := h.c0
  have rm := h.rv hj
  have hE := h.heard j hj
  obtain ⟨p, cap, e, _⟩ := evs_slice hE
  obtain ⟨v', w', r1, r2, r3, r4⟩ := run_app2 (evs_nil W W.heap.size) hE (Nat.le_refl _) (by simp) (Nat.le_trans (h.short j hj) (by decide))
  rw [e] at rm r1
  have u1 : ((j : Int) < 0) = False := eq_false (by omega)
  have u2 : ((j : Int) ≥ c.n) = False := eq_false (by omega)
  have u3 : decide ((j : Int) < 0) = false := decide_eq_false (by omega)
  have u4 : decide ((j : Int) ≥ c.n) = false := decide_eq_false (by omega)
  have u5 : (j < c.n) = True := eq_true hj
  have R1 := hid r1
  have R2 := hid r2
  have R3 := hid r3
  clear h hj r1 r2 r3 r4 hE e
  go_enter Tryz.func13, Tryz.ntmps13
  go_wp2_with (at_builtin; refine app_evs rfl (.const (.slice none 0 0)) (.tmp 23) rfl rfl rfl rfl R1.out ?_)
  go_ret
  exact ⟨_, rfl, R2.out, below_none R3.out⟩
set_option maxRecDepth 100000 in
set_option maxHeartbeats 3200000 in
theorem heard_out {w0 W : World} {B : Nat} {a : Ga} {c : Gc} (h : WM w0 W B a c) (j : Int) (hj : j < 0 ∨ (c.n : Int) ≤ j) : Calls Tryz.prog 13 #[.pointer (some ⟨a.gw, 0, none⟩), .int .i64 j] W fun e w' => e = .returned (.slice none 0 0) ∧ w' = W := by
  have c0 := h.c0
  clear h
  by_cases h0 : j < 0
  · have u3 : decide ((j : Int) < 0) = true := decide_eq_true h0
    have u1 : ((j : Int) < 0) = True := eq_true h0
    clear h0 hj
    go_enter Tryz.func13, Tryz.ntmps13
    go_wp2_with fail
    go_ret
    exact ⟨rfl, rfl⟩
  · have u1 : ((j : Int) < 0) = False := eq_false h0
    have u2 : ((j : Int) ≥ c.n) = True := eq_true (by omega)
    have u3 : decide ((j : Int) < 0) = false := decide_eq_false h0
    have u4 : decide ((j : Int) ≥ c.n) = true := decide_eq_true (by omega)
    clear h0 hj
    go_enter Tryz.func13, Tryz.ntmps13
    go_wp2_with fail
    go_ret
    exact ⟨rfl, rfl⟩
end Go.Proofs.YtpkpnaedacefaaaGreat.WireW
