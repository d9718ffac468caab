/- Laws on whole blocks of memory: a block that the call made is known cell by cell. -/
import Derived.Below
import Derived.OwnWalk
import Derived.Laws.OwnMore
import Derived.Laws.MakeOwn
import Derived.Laws.CopyOwn
import Derived.Laws.Tables
import Derived.Lib.SlBuf
import Derived.Lib.BufferWrite
import Derived.Lib.ConvBytes
import Derived.Laws.BytesArg
import Derived.Lib.AppendStr
import Derived.WalkKit
namespace Go.Proofs.YtpkpnaedacefaaaGreat.Lib
set_option linter.unusedVariables false
set_option linter.unusedSimpArgs false
open Go Go.RowKit

/-- A fact that the walk must not use as a rule. -/
structure Hd (p : Prop) : Prop where
  out : p
theorem hid {p : Prop} (h : p) : Hd p := ⟨h⟩

/-- The whole block g: its cells, its element type. -/
def Blk (w : World) (g : Nat) (t : TypeId) (cs : List Value) : Prop := w.heap[g]? = some (.cells cs.toArray t (0, 0))
theorem Blk.lt {w : World} {g : Nat} {t : TypeId} {cs : List Value} (h : Blk w g t cs) : g < w.heap.size := (Array.getElem?_eq_some_iff.1 h).1
theorem Blk.cell {w : World} {g : Nat} {t : TypeId} {cs : List Value} (h : Blk w g t cs) (i : Nat) : w.cell? ⟨g, i, none⟩ = cs[i]? := by
  have := cell_of_row w g i cs.toArray t (0, 0) h
  simpa using this
theorem Blk.frozen {w : World} {g : Nat} {t : TypeId} {cs : List Value} (h : Blk w g t cs) (i : Nat) : w.frozen? ⟨g, i, none⟩ = false := by
  unfold Blk at h
  simp [World.frozen?, h]
theorem Blk.below {w w1 : World} {g : Nat} {t : TypeId} {cs : List Value} (h : Blk w g t cs) (hb : Below w.heap.size w w1) : Blk w1 g t cs := (hb.block g h.lt).trans h
theorem Blk.alloc {w : World} {g : Nat} {t : TypeId} {cs : List Value} (h : Blk w g t cs) (o : Obj) : Blk (w.alloc o) g t cs := (Below.heap_alloc w o g h.lt).trans h
theorem Blk.drew {w : World} {g : Nat} {t : TypeId} {cs : List Value} (h : Blk w g t cs) : Blk w.drew g t cs := h
theorem Blk.drewN {w : World} {g : Nat} {t : TypeId} {cs : List Value} (h : Blk w g t cs) (n : Nat) : Blk (w.drewN n) g t cs := h
theorem Blk.new (w : World) (cs : List Value) (t : TypeId) : Blk (w.alloc (.cells cs.toArray t)) w.heap.size t cs := heap_alloc_new w _
theorem Blk.set {w : World} {g : Nat} {t : TypeId} {cs : List Value} (h : Blk w g t cs) (i : Nat) (u : Value) : Blk (w.setCell ⟨g, i, none⟩ u) g t (cs.set i u) := by
  have hlt := h.lt
  have hv : w.heap[g] = .cells cs.toArray t (0, 0) := (Array.getElem?_eq_some_iff.1 h).2
  unfold Blk World.setCell
  simp only
  rw [Array.getElem?_eq_getElem (by simpa using hlt), Array.getElem_modify]
  simp [hv]
theorem Blk.far {w : World} {g : Nat} {t : TypeId} {cs : List Value} (h : Blk w g t cs) {p : Addr} (hp : g ≠ p.block) (u : Value) : Blk (w.setCell p u) g t cs := (Below.heap_setCell w p u g hp).trans h
theorem Blk.grown {w w1 : World} {g : Nat} {t : TypeId} {cs : List Value} {row : Option Nat} (h : Blk w g t cs) (hg : w.grownBy w1 row) (hne : some g ≠ row) : Blk w1 g t cs := (hg.block g h.lt hne).trans h
theorem Blk.ne {w : World} {g g' : Nat} {t t' : TypeId} {cs cs' : List Value} (h : Blk w g t cs) (h' : Blk w g' t' cs') (hne : t ≠ t') : g ≠ g' := by
  intro e
  subst e
  unfold Blk at h h'
  rw [h] at h'
  simp at h'
  exact hne h'.2
/-- A row that is its block whole. -/
theorem Blk.of_own {w : World} {base e g n : Nat} {xs : List Value} (h : w.ownsRow base e 1 (.slice (some ⟨g, 0, none⟩) n n) n xs) : Blk w g e xs := by
  rcases h.2 with ⟨h', _⟩ | ⟨g', cap, cur, h', _, hg, _, _, hs, ht⟩
  · simp at h'
  · simp only [Value.slice.injEq, Option.some.injEq, Addr.mk.injEq, and_true, true_and] at h'
    obtain ⟨rfl, rfl⟩ := h'
    have : cur.toList = xs := by
      rw [← ht]
      exact (List.take_of_length_le (by simp [hs])).symm
    unfold Blk
    rw [hg, ← this]
theorem Blk.own {w : World} {base e g n : Nat} {xs : List Value} (h : Blk w g e xs) (hb : base ≤ g) (hn : xs.length = n) (hm : n ≤ maxLen) : w.ownsRow base e 1 (.slice (some ⟨g, 0, none⟩) n n) n xs :=
  ⟨by simp [hn], .inr ⟨g, n, xs.toArray, rfl, hb, h, Nat.le_refl _, hm, by simp [hn], by simp [← hn]⟩⟩

/-- Cells of a text's bytes. -/
def byteVs (l : List UInt8) : List Value := l.map fun x => Value.int .u8 (x.toNat : Int)
theorem byteVs_length (l : List UInt8) : (byteVs l).length = l.length := by simp [byteVs]
theorem byteVs_get (l : List UInt8) (i : Nat) (h : i < l.length) : (byteVs l)[i]? = some (.int .u8 (l[i].toNat : Int)) := by simp [byteVs, h]

/-- 'make([]T, n)' of one-cell elements: a whole block. -/
theorem make_blk {P : Program} (w : World) {ops : Array Oper} {rest : List Oper} {o : Oper} {a : Act} {Q : Exit → Act → World → Prop}
    (hg : o.guard = none) (l c : Operand) (t : TypeId) (hop : o.op = Op.makeSlice t l c)
    (e : TypeId) (i : TypeInfo) (z : Value) (h1 : P.underlying t = some (.slice e)) (h2 : P.info? e = some i) (h3 : i.zero = some z) (h4 : i.size = 1) (hz : z.cells = #[z])
    (n : Nat) (hl : a.eval l = .int .i64 n) (hc : a.eval c = .int .i64 n) (b2 : i.bytes * n ≤ 281474976710656) (b3 : n ≤ maxLen)
    (hK : ∀ w' g, w.heap.size ≤ g → Blk w' g e (List.replicate n z) → w.grownBy w' none → wpList P ops Q rest (a.put o.dst (.slice (some ⟨g, 0, none⟩) n n)) w') :
    wpList P ops Q (o :: rest) a w := by
  refine wpList_make_full w hg l c t hop w.heap.size e i z 1 h1 h2 h3 h4 .i64 .i64 n n n hl hc rfl rfl b2 b3 (Nat.le_refl _) ?_
  intro w' hown hgrow
  refine hK w' w.heap.size (Nat.le_refl _) ?_ hgrow
  have := Blk.of_own hown
  have e2 : (madeCells z.cells (n * 1)).toList = List.replicate n z := by
    rw [Nat.mul_one, hz]
    apply List.ext_getElem?
    intro j
    simp only [madeCells, Array.getElem?_toList]
    by_cases hj : j < n
    · simp [hj, Nat.mod_one]
    · simp [hj]
  rw [e2] at this
  exact this

/-- 'copy(d, s)' of a text into a whole block's beginning. -/
theorem copy_text {P : Program} {w : World} {ops : Array Oper} {rest : List Oper} {o : Oper} {a : Act} {Q : Exit → Act → World → Prop} (hgd : o.guard = none) (d s : Operand) (dT sT : TypeId)
    (ho : o.op = .call { callee := .builtin .copy, args := #[d, s], argTypes := #[dT, sT] }) (elem : TypeId) (hu : P.underlying dT = some (.slice elem)) (hsz : (P.info? elem).map (·.size) = some 1)
    (g n c : Nat) (t : ByteArray) (cur : List Value) (T : TypeId) (hd : a.eval d = .slice (some ⟨g, 0, none⟩) n c) (hs : a.eval s = .string t) (hb : Blk w g T cur) (hn : t.size ≤ n) (hfit : t.size ≤ cur.length)
    (h : ∀ w', Blk w' g T (byteVs t.data.toList ++ cur.drop t.size) → w.grownBy w' (some g) → wpList P ops Q rest (a.put o.dst (.int .i64 t.size)) w') : wpList P ops Q (o :: rest) a w := by
  have hr := Go.Lib.run_copy_row_string (P := P) w dT sT o.type elem g 0 n c t cur.toArray T hu hsz hb hn (by simpa using hfit)
  refine Go.Lib.wpList_copy_run w hgd d s dT sT ho _ _ hd hs hr ?_
  refine h _ ?_ ?_
  · have := setRow_heap w g _ (List.take 0 cur ++ byteVs t.data.toList ++ cur.drop (0 + t.size)).toArray T _ hb
    show Blk (w.setRow g (List.take 0 cur ++ byteVs t.data.toList ++ cur.drop (0 + t.size)).toArray) g T _
    simpa [Blk] using this
  · exact ⟨rfl, rfl, rfl, by simp [World.setRow], fun k _ hk => setRow_other w g k _ (fun e => hk (by rw [e]))⟩

/-- Numbers of bytes, as a text. -/
theorem strOf_bytes (l : List UInt8) : strOfNums (l.map fun x => (x.toNat : Int)) = ⟨l.toArray⟩ := by
  have : (l.map fun x => (x.toNat : Int)).map (fun n => UInt8.ofNat n.toNat) = l := by
    rw [List.map_map]
    conv => rhs; rw [← List.map_id l]
    refine List.map_congr_left (fun x _ => ?_)
    simp
  unfold strOfNums
  rw [this]

/-- 'string(xs)' of a row that the call made. -/
theorem conv_text {P : Program} {w : World} {ops : Array Oper} {rest : List Oper} {o : Oper} {a : Act} {Q : Exit → Act → World → Prop} (hgd : o.guard = none) (x : Operand) (src dst e : TypeId)
    (ho : o.op = .convert src dst x) (hs : P.underlying src = some (.slice e)) (he : P.underlying e = some (.int .u8)) (hd : P.underlying dst = some .string)
    (g n c : Nat) (T : TypeId) (cs : List Value) (l : List UInt8) (hx : a.eval x = .slice (some ⟨g, 0, none⟩) n c) (hb : Blk w g T cs) (hl : cs.take n = byteVs l) (hn : l.length = n)
    (h : wpList P ops Q rest (a.put o.dst (.string ⟨l.toArray⟩)) w) : wpList P ops Q (o :: rest) a w := by
  refine wpList_plain hgd fun K hK => ?_
  have hr := run_convert_bytes_arg (P := P) (w := w) src e hs he g 0 n c (l.map fun x => (x.toNat : Int)) (by simp [hn]) (fun i hi => by
    have h1 : cs[i]? = (byteVs l)[i]? := by rw [← hl, List.getElem?_take_of_lt hi]
    rw [Nat.zero_add, hb.cell, h1, byteVs_get l i (by omega)]
    simp [List.getD, show i < l.length by omega]) dst hd
  rw [strOf_bytes] at hr
  unfold Oper.wp
  simp [execOp, ho, hx, hr, Result.andThen]
  exact hK _ _ h

/-! ### A row of bytes that the call made and appends to -/
/-- v is a row of the call's own (elements of type e, in a block from base on) whose bytes are l. -/
def OwnB (w : World) (base : Nat) (e : TypeId) (v : Value) (l : List UInt8) : Prop := w.ownsRow base e 1 v l.length (byteVs l)
theorem OwnB.nil (w : World) (base : Nat) (e : TypeId) : OwnB w base e (.slice none 0 0) [] := World.ownsRow_nil w base e 1
theorem OwnB.alloc {w : World} {base : Nat} {e : TypeId} {v : Value} {l : List UInt8} (h : OwnB w base e v l) (o : Obj) : OwnB (w.alloc o) base e v l := World.ownsRow.alloc h o
theorem OwnB.kept {w w' : World} {base : Nat} {e : TypeId} {v : Value} {l : List UInt8} {row : Option Nat} (h : OwnB w base e v l) (hg : w.grownBy w' row) (hne : v.ownBlock = none ∨ v.ownBlock ≠ row) : OwnB w' base e v l := World.ownsRow.kept h hg hne
theorem OwnB.below {w w' : World} {base : Nat} {e : TypeId} {v : Value} {l : List UInt8} (h : OwnB w base e v l) (hb : Below w.heap.size w w') : OwnB w' base e v l := by
  refine ⟨h.1, ?_⟩
  rcases h.2 with hn | ⟨g, cap, cur, rfl, hb2, hg, rest⟩
  · exact .inl hn
  · exact .inr ⟨g, cap, cur, rfl, hb2, (hb.block g (Array.getElem?_eq_some_iff.1 hg).1).trans hg, rest⟩
theorem OwnB.ne {w : World} {base g : Nat} {e T : TypeId} {v : Value} {l : List UInt8} {cs : List Value} (h : OwnB w base e v l) (hb : Blk w g T cs) (hT : T ≠ e) : v.ownBlock ≠ some g := by
  rcases h.2 with ⟨rfl, _⟩ | ⟨g', cap, cur, rfl, _, hg, _⟩
  · simp [Value.ownBlock]
  · intro e2
    simp only [Value.ownBlock, Option.some.injEq] at e2
    subst e2
    unfold Blk at hb
    rw [hg] at hb
    simp at hb
    exact hT hb.2.symm
/-- A store elsewhere. -/
theorem OwnB.set {w : World} {base g : Nat} {e : TypeId} {v : Value} {l : List UInt8} (h : OwnB w base e v l) (i : Nat) (u : Value) (hne : v.ownBlock ≠ some g) : OwnB (w.setCell ⟨g, i, none⟩ u) base e v l :=
  h.kept (row := some g) ⟨rfl, rfl, rfl, by simp [World.setCell], fun k _ hk => Below.heap_setCell _ _ _ _ (fun e2 => hk (by simp [e2]))⟩ (.inr hne)
theorem OwnB.grow {w w0 w' : World} {base B : Nat} {e : TypeId} {v : Value} {l : List UInt8} (h : OwnB w base e v l) (hb : Below B w0 w) (hg : w.grownBy w' v.ownBlock) (hB : B ≤ base) (hBw : B ≤ w.heap.size) : Below B w0 w' :=
  hb.grown hg hBw (fun k hk => Nat.le_trans hB (World.ownsRow.lt h k hk).1)

/-- 'make([]T, 0, n)' of bytes. -/
theorem make_ownB {P : Program} (w : World) {ops : Array Oper} {rest : List Oper} {o : Oper} {a : Act} {Q : Exit → Act → World → Prop}
    (hg : o.guard = none) (l c : Operand) (t : TypeId) (hop : o.op = Op.makeSlice t l c)
    (e : TypeId) (i : TypeInfo) (h1 : P.underlying t = some (.slice e)) (h2 : P.info? e = some i) (h3 : i.zero = some (.int .u8 0)) (h4 : i.size = 1) (h5 : i.bytes = 1)
    (n : Nat) (N : Int) (hl : a.eval l = .int .i64 0) (hc : a.eval c = .int .i64 N) (hN : N = n) (b2 : n ≤ 140737488355328)
    (hK : ∀ w' v, OwnB w' w.heap.size e v [] → w.grownBy w' none → wpList P ops Q rest (a.put o.dst v) w') :
    wpList P ops Q (o :: rest) a w :=
  wpList_make_own w hg l c t hop w.heap.size e i (.int .u8 0) 1 h1 h2 h3 h4 .i64 .i64 N n hl hc hN (by rw [h5]; omega) (by unfold maxLen; omega) (Nat.le_refl _) (fun w' hown hgrow => hK w' _ hown hgrow)

/-- 'append(xs, s...)' of a text. -/
theorem app_str {P : Program} {w : World} {ops : Array Oper} {rest : List Oper} {o : Oper} {a : Act} {Q : Exit → Act → World → Prop} (hgd : o.guard = none) (sl x : Operand) (t u : TypeId)
    (ho : o.op = .call { callee := .builtin .append, args := #[sl, x], argTypes := #[t, u] })
    (base : Nat) (e : TypeId) (i : TypeInfo) (ht : P.underlying t = some (.slice e)) (hu : P.underlying u = some .string) (hi : P.info? e = some i) (hz : i.zero = some (.int .u8 0))
    (hsize : i.size = 1) (hby : i.bytes = 1)
    (v : Value) (l : List UInt8) (hs : a.eval sl = v) (hown : OwnB w base e v l) (s : ByteArray) (hx : a.eval x = .string s)
    (hn : l.length + s.size ≤ 140737488355328) (hbase : base ≤ w.heap.size)
    (h : ∀ v' w', OwnB w' base e v' (l ++ s.data.toList) → w.grownBy w' v.ownBlock → wpList P ops Q rest (a.put o.dst v') w') : wpList P ops Q (o :: rest) a w :=
  Go.Lib.wpList_append_own_string (P := P) w hgd sl x t u ho base e i ht hu hi hz hsize hby v l.length (byteVs l) hs hown s hx (by unfold maxLen; omega) hn hbase (fun v' w' h1 h2 _ => h v' w' (by
    have e1 : (l ++ s.data.toList).length = l.length + s.size := by rw [List.length_append, Array.length_toList]; rfl
    have e2 : byteVs (l ++ s.data.toList) = byteVs l ++ Go.Lib.strCells s := by simp [byteVs, Go.Lib.strCells]
    unfold OwnB
    rw [e1, e2]
    exact h1) h2)

/-- 'append(xs, c)' of one byte: the world at hand is the one behind the box. -/
theorem app_byte {P : Program} {W : World} {ops : Array Oper} {rest : List Oper} {o : Oper} {a : Act} {Q : Exit → Act → World → Prop} (hgd : o.guard = none) (sl x : Operand) (t : TypeId)
    (ho : o.op = .call { callee := .builtin .append, args := #[sl, x], argTypes := #[t, t] })
    (base : Nat) (e : TypeId) (i : TypeInfo) (ht : P.underlying t = some (.slice e)) (hi : P.info? e = some i) (hz : i.zero = some (.int .u8 0))
    (hsize : i.size = 1) (hby : i.bytes = 1)
    (v : Value) (l : List UInt8) (hs : a.eval sl = v) (hown : OwnB W base e v l) (c : UInt8) (C : Int) (hC : C = (c.toNat : Int)) (hx : a.eval x = .slice (some ⟨W.heap.size, 0, none⟩) 1 1)
    (hn : l.length + 1 ≤ 140737488355328) (hbase : base ≤ W.heap.size)
    (h : ∀ v' w', OwnB w' base e v' (l ++ [c]) → (W.alloc (.cells #[.int .u8 C] e)).grownBy w' v.ownBlock → wpList P ops Q rest (a.put o.dst v') w') : wpList P ops Q (o :: rest) a (W.alloc (.cells #[.int .u8 C] e)) := by
  subst hC
  refine wpList_append_own (P := P) _ hgd sl x t ho base e i (.int .u8 0) 1 1 ht hi hz hsize hby rfl (by decide) v l.length (byteVs l) hs (hown.alloc _) ⟨W.heap.size, 0, none⟩ 1 1 [.int .u8 (c.toNat : Int)] hx rfl ?_ ?_ (by unfold maxLen; omega) (by omega) (by simp; omega) (fun v' w' h1 h2 _ => h v' w' (by
    have e2 : byteVs (l ++ [c]) = byteVs l ++ [.int .u8 (c.toNat : Int)] := by simp [byteVs]
    unfold OwnB
    rw [List.length_append, e2]
    exact h1) h2)
  · intro j u hj
    cases j with
    | zero =>
      simp at hj
      subst hj
      have := Blk.cell (Blk.new W [.int .u8 (c.toNat : Int)] e) 0
      simp [Addr.add]
    | succ j => simp at hj
  · intro u hu
    simp at hu
    subst hu
    rfl

/-- 'string(xs)' of such a row. -/
theorem conv_own {P : Program} {w : World} {ops : Array Oper} {rest : List Oper} {o : Oper} {a : Act} {Q : Exit → Act → World → Prop} (hgd : o.guard = none) (x : Operand) (src dst e : TypeId)
    (ho : o.op = .convert src dst x) (hs : P.underlying src = some (.slice e)) (he : P.underlying e = some (.int .u8)) (hd : P.underlying dst = some .string)
    (base : Nat) (e' : TypeId) (v : Value) (l : List UInt8) (hown : OwnB w base e' v l) (hx : a.eval x = v)
    (h : wpList P ops Q rest (a.put o.dst (.string ⟨l.toArray⟩)) w) : wpList P ops Q (o :: rest) a w := by
  have hr : (convert src dst v).run P w = .ok (.string ⟨l.toArray⟩) w := by
    rcases hown.2 with ⟨rfl, h0⟩ | ⟨g, cap, cur, rfl, _⟩
    · obtain rfl : l = [] := List.eq_nil_of_length_eq_zero h0
      exact run_convert_bytes_nil w src e hs he 0 0 dst hd
    · have := run_convert_bytes_arg (P := P) (w := w) src e hs he g 0 l.length cap (l.map fun x => (x.toNat : Int)) (by simp) (fun i hi => by
        have hc := World.ownsRow.cells (g := g) hown rfl i (.int .u8 (l[i].toNat : Int)) (byteVs_get l i hi)
        have ha : (⟨g, 0, none⟩ : Addr).add i = ⟨g, 0 + i, none⟩ := by unfold Addr.add; split <;> simp_all
        rw [ha] at hc
        rw [hc]
        simp [List.getD, hi]) dst hd
      rw [strOf_bytes] at this
      exact this
  refine wpList_plain hgd fun K hK => ?_
  unfold Oper.wp
  simp [execOp, ho, hx, hr, Result.andThen]
  exact hK _ _ h

/-- 's[l:h]' of a text. -/
theorem run_slice_text {P : Program} (t : TypeId) (s : ByteArray) (kl kh : IntKind) (l h : Int) (h0 : 0 ≤ l) (h1 : l ≤ h) (h2 : h ≤ s.size) (ht : P.underlying t = some .string) (w : World) :
    (Instr.slice t (.string s) (some (.int kl l)) (some (.int kh h)) none).run P w = .ok (.string (s.extract l.toNat h.toNat)) w := by
  have h3 : 0 ≤ h := by omega
  go_simp
end Go.Proofs.YtpkpnaedacefaaaGreat.Lib
namespace Go.Proofs.YtpkpnaedacefaaaGreat.Lib
set_option linter.unusedVariables false
set_option linter.unusedSimpArgs false
open Go Go.RowKit

theorem grown_refl (w : World) (row : Option Nat) : w.grownBy w row := ⟨rfl, rfl, rfl, Nat.le_refl _, fun _ _ _ => rfl⟩
theorem grown_set {w w1 : World} {g : Nat} (h : w.grownBy w1 (some g)) (i : Nat) (u : Value) : w.grownBy (w1.setCell ⟨g, i, none⟩ u) (some g) :=
  ⟨h.os, h.tape, h.output, by have := h.size; simpa [World.setCell] using this, fun k hk hne => (Below.heap_setCell w1 ⟨g, i, none⟩ u k (fun e => hne (by rw [e]))).trans (h.block k hk hne)⟩
theorem grown_trans {a b c : World} {row : Option Nat} (h : a.grownBy b row) (k : b.grownBy c row) : a.grownBy c row :=
  ⟨k.os.trans h.os, k.tape.trans h.tape, k.output.trans h.output, Nat.le_trans h.size k.size, fun j hj hne => (k.block j (Nat.lt_of_lt_of_le hj h.size) hne).trans (h.block j hj hne)⟩
theorem grown_alloc {w w1 : World} {row : Option Nat} (h : w.grownBy w1 row) (o : Obj) : w.grownBy (w1.alloc o) row := grown_trans h (World.grownBy_alloc _ _ _)
theorem grown_drew {w w1 : World} {row : Option Nat} (h : w.grownBy w1 row) : w.grownBy w1.drew row := ⟨h.os, h.tape, h.output, h.size, h.block⟩
theorem grown_drewN {w w1 : World} {row : Option Nat} (h : w.grownBy w1 row) (n : Nat) : w.grownBy (w1.drewN n) row := ⟨h.os, h.tape, h.output, h.size, h.block⟩
theorem grown_below {w w1 w2 : World} {row : Option Nat} (h : w.grownBy w1 row) (hb : Below w1.heap.size w1 w2) : w.grownBy w2 row :=
  ⟨hb.os.trans h.os, hb.tape.trans h.tape, hb.output.trans h.output, Nat.le_trans h.size hb.size, fun k hk hne => (hb.block k (Nat.lt_of_lt_of_le hk h.size)).trans (h.block k hk hne)⟩
theorem grown_none {w w1 : World} {row : Option Nat} (h : w.grownBy w1 none) : w.grownBy w1 row := ⟨h.os, h.tape, h.output, h.size, fun k hk _ => h.block k hk (by simp)⟩
theorem grown_of_below {w w1 : World} {row : Option Nat} (h : Below w.heap.size w w1) : w.grownBy w1 row := grown_below (grown_refl w row) h
theorem run_conv_own {P : Program} {w : World} (src dst e : TypeId) (hs : P.underlying src = some (.slice e)) (he : P.underlying e = some (.int .u8)) (hd : P.underlying dst = some .string)
    (base : Nat) (e' : TypeId) (v : Value) (l : List UInt8) (hown : OwnB w base e' v l) : (convert src dst v).run P w = .ok (.string ⟨l.toArray⟩) w := by
  rcases hown.2 with ⟨rfl, h0⟩ | ⟨g, cap, cur, rfl, _⟩
  · obtain rfl : l = [] := List.eq_nil_of_length_eq_zero h0
    exact run_convert_bytes_nil w src e hs he 0 0 dst hd
  · have := run_convert_bytes_arg (P := P) (w := w) src e hs he g 0 l.length cap (l.map fun x => (x.toNat : Int)) (by simp) (fun i hi => by
      have hc := World.ownsRow.cells (g := g) hown rfl i (.int .u8 (l[i].toNat : Int)) (byteVs_get l i hi)
      have ha : (⟨g, 0, none⟩ : Addr).add i = ⟨g, 0 + i, none⟩ := by unfold Addr.add; split <;> simp_all
      rw [ha] at hc
      rw [hc]
      simp [List.getD, hi]) dst hd
    rw [strOf_bytes] at this
    exact this
end Go.Proofs.YtpkpnaedacefaaaGreat.Lib
