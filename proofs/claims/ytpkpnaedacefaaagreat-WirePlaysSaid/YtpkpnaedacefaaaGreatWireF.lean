/- The walks of package wire: Step: words. -/
import Derived.Test.YtpkpnaedacefaaaGreatWireD
namespace Go.Proofs.YtpkpnaedacefaaaGreat.WireW
set_option linter.unusedVariables false
set_option linter.unusedSimpArgs false
open Go Go.RowKit Go.Proofs.YtpkpnaedacefaaaGreat.Lib Go.Proofs.YtpkpnaedacefaaaGreat.Bits Go.Proofs.YtpkpnaedacefaaaGreat.BitsW Go.Proofs.YtpkpnaedacefaaaGreat.Mac Go.Proofs.YtpkpnaedacefaaaGreat.MacW Go.Proofs.YtpkpnaedacefaaaGreat.WireN Go.Proofs.YtpkpnaedacefaaaGreat.BusW Go.Proofs.YtpkpnaedacefaaaGreat.PrintMore
/-- What the first n nodes drive; the bit on the wire. -/
def lvls (ms : Nat → M) (n : Nat) : List UInt8 := (List.range n).map fun i => sg (ms i).drive
theorem lvls_len (ms : Nat → M) (n : Nat) : (lvls ms n).length = n := by unfold lvls; simp
theorem lvls_succ (ms : Nat → M) (n : Nat) : lvls ms (n + 1) = lvls ms n ++ [sg (ms n).drive] := by unfold lvls; rw [List.range_succ, List.map_append]; rfl
def cb (c : Gc) : Bool := !((lvls c.ms c.n).contains 48 != c.t)
theorem bit_cb (c : Gc) : bitC ⟨(lvls c.ms c.n).toArray⟩ c.t = sg (cb c) := by
  unfold bitC lowOf cb
  show (if ((lvls c.ms c.n).contains 48 != c.t) = true then (48 : UInt8) else 49) = _
  cases (lvls c.ms c.n).contains 48 != c.t <;> rfl
theorem more_sg (l : List UInt8) (b : Bool) : more l b = (if 8000 ≤ l.length then cutOf l else l) ++ [sg b] := by
  unfold more cutOf
  cases b <;> rfl
theorem foot_next {W W' : World} {B n : Nat} {a a' : Ga} (hk : Kp (a.foot B n W) W W') (e1 : a'.gw = a.gw) (e2 : a'.gr = a.gr) (e3 : a'.gb = a.gb) (e4 : a'.gs = a.gs) (hv : ∀ i k, i < n → (a'.vs i).ownBlock = some k → a.foot B n W k ∨ W.heap.size ≤ k) :
    ∀ k, a'.foot B n W' k → a.foot B n W k ∨ W.heap.size ≤ k := by
  intro k h
  rcases h with h | h | h | ⟨i, hi, h⟩ | ⟨i, hi, h⟩ | ⟨h1, cs, z, h2⟩
  · exact .inl (.inl (h.trans e1))
  · exact .inl (.inr (.inl (h.trans e2)))
  · exact .inl (.inr (.inr (.inl (h.trans e3))))
  · exact .inl (.inr (.inr (.inr (.inl ⟨i, hi, by rw [h, e4]⟩))))
  · exact hv i k hi h
  · by_cases hl : k < W.heap.size
    · by_cases hf : a.foot B n W k
      · exact .inl hf
      · exact .inl (.inr (.inr (.inr (.inr (.inr ⟨h1, cs, z, (hk.block k hl hf).symm.trans h2⟩)))))
    · exact .inr (Nat.le_of_not_lt hl)
/-- The bus's bit. -/
theorem bus_bit {w0 W : World} {B : Nat} {a : Ga} {c : Gc} (h : WM w0 W B a c) (hn : c.bn ≤ 1000000) : Calls Tryz.prog 27 #[.pointer (some ⟨a.gb, 0, none⟩), .string ⟨(lvls c.ms c.n).toArray⟩] W fun e w' => e = .returned (.int .u8 ((sg (cb c)).toNat : Int)) ∧
    ∃ v, WM w0 w' B { a with bv := v } { c with l := more c.l (cb c), bn := c.bn + 1, t := false } ∧ Kp (a.foot B c.n W) W w' ∧ ∀ k, Ga.foot { a with bv := v } B c.n w' k → a.foot B c.n W k ∨ W.heap.size ≤ k := by
  have HB := bit_cb c
  have fin : ∀ (W' : World) (v : Value), IsBus W' B a.gb v (more c.l (cb c)) ((c.bn + 1 : Nat) : Int) false → Kept2 W W' a.gb a.bv.ownBlock → WM w0 W' B { a with bv := v } { c with l := more c.l (cb c), bn := c.bn + 1, t := false } ∧ Kp (a.foot B c.n W) W W' ∧ ∀ k, Ga.foot { a with bv := v } B c.n W' k → a.foot B c.n W k ∨ W.heap.size ≤ k := by
    intro W' v hb hk
    have h1 := h.bus_at hk hb (more_len _ _ h.ll)
    have h2 : Kp (a.foot B c.n W) W W' := (Kp.of_kept2 hk).mono (fun i e => by
      rcases e with rfl | e
      · exact .inr (.inr (.inl rfl))
      · exact .inr (.inr (.inr (.inr (.inr (own_u8 h.bus.2.2 e))))))
    exact ⟨h1, h2, foot_next h2 rfl rfl rfl rfl (fun i k hi e => .inl (.inr (.inr (.inr (.inr (.inl ⟨i, hi, e⟩))))))⟩
  by_cases hl : c.l.length < 8000
  · refine (step_small B a.gb a.bv c.l c.bn c.t _ W h.bus hl hn).mono ?_
    rintro e w' ⟨rfl, ⟨v, hv⟩, hk⟩
    rw [HB] at hv ⊢
    have := more_sg c.l (cb c)
    rw [if_neg (by omega)] at this
    rw [← this] at hv
    exact ⟨rfl, v, fin w' v hv hk⟩
  · have hll := h.ll
    refine (step_cut B a.gb a.bv c.l c.bn c.t _ W h.bus (by omega) (by omega) hn).mono ?_
    rintro e w' ⟨rfl, ⟨v, hv⟩, hk⟩
    rw [HB] at hv ⊢
    have := more_sg c.l (cb c)
    rw [if_pos (by omega)] at this
    rw [← this] at hv
    exact ⟨rfl, v, fin w' v hv hk⟩
/-- The nodes, the first j of which have sampled. -/
def mid (c : Gc) (b : Bool) (j : Nat) : Gc := { c with ms := fun i => if i < j then ((c.ms i).sample b).1 else c.ms i, hs := fun i => if i < j then keep (c.hs i ++ ((c.ms i).sample b).2) else c.hs i }
def evs (c : Gc) (b : Bool) (j : Nat) : List Ev := (List.range j).flatMap fun i => ((c.ms i).sample b).2
theorem evs_succ (c : Gc) (b : Bool) (j : Nat) : evs c b (j + 1) = evs c b j ++ ((c.ms j).sample b).2 := by unfold evs; rw [List.range_succ, List.flatMap_append]; simp
theorem evs_len (c : Gc) (b : Bool) (j : Nat) : (evs c b j).length ≤ 3 * j := by
  induction j with
  | zero => simp [evs]
  | succ j ih => rw [evs_succ, List.length_append]; have := sample_short (c.ms j) b; omega
theorem mid_zero (c : Gc) (b : Bool) : mid c b 0 = c := rfl
theorem mid_succ (c : Gc) (b : Bool) (j : Nat) : mid c b (j + 1) = { mid c b j with ms := upd (mid c b j).ms j ((c.ms j).sample b).1, hs := upd (mid c b j).hs j (keep (c.hs j ++ ((c.ms j).sample b).2)) } := by
  unfold mid
  simp only [Gc.mk.injEq, true_and, and_true]
  refine ⟨?_, ?_⟩
  all_goals
    funext i
    unfold upd
    by_cases h : i = j
    · subst h; rw [if_pos (by omega), if_pos rfl]
    · rw [if_neg h]
      by_cases hl : i < j
      · exact (if_pos (by omega)).trans (if_pos hl).symm
      · exact (if_neg (by omega)).trans (if_neg hl).symm
theorem mid_ms (c : Gc) (b : Bool) (j : Nat) : (mid c b j).ms j = c.ms j := if_neg (Nat.lt_irrefl j)
theorem mid_hs (c : Gc) (b : Bool) (j : Nat) : (mid c b j).hs j = c.hs j := if_neg (Nat.lt_irrefl j)
/-- A row of events beside a wire. -/
theorem WM.beside {w0 W W' : World} {B b : Nat} {a : Ga} {c : Gc} {v : Value} {L : List Ev} (h : WM w0 W B a c) (hv : Evs W b v L) (hb : w0.heap.size ≤ b) (hn : ∀ i k, i < c.n → v.ownBlock = some k → (a.vs i).ownBlock ≠ some k) (k : W.grownBy W' v.ownBlock) : WM w0 W' B a c := by
  refine h.kp (Kp.of_grown k) (fun q hq e => ?_) (fun q e => Nat.le_trans hb (owns_lt hv e).1)
  rcases hq with rfl | rfl | rfl | ⟨i, hi, rfl⟩ | ⟨i, hi, e2⟩ | ⟨_, e2⟩
  · exact owns_ne hv h.top (by decide) e
  · exact owns_ne hv h.row (by decide) e
  · exact owns_ne hv h.bus.2.1 (by decide) e
  · exact owns_ne hv (h.node i hi).nd.blk (by decide) e
  · exact hn i q hi e e2
  · exact owns_not8 hv (by decide) e e2
theorem run_copy_rowS {P : Program} (w : World) (dT sT ty elem : TypeId) (g o dLen dCap : Nat) (a : Addr) (sLen sCap s : Nat) (cur : Array Value) (t : TypeId) (cs : List Value)
    (hu : P.underlying dT = some (.slice elem)) (hs : (P.info? elem).map (·.size) = some s)
    (hg : w.heap[g]? = some (.cells cur t (0, 0))) (hn : cs.length = Nat.min sLen dLen * s)
    (hsrc : ∀ j v, cs[j]? = some v → w.cell? (a.add j) = some v) (hfit : o + cs.length ≤ cur.size) (h1 : ∀ v ∈ cs, v.oneCell' = true) :
    (Builtin.copy_ #[dT, sT] ty #[.slice (some ⟨g, o, none⟩) dLen dCap, .slice (some a) sLen sCap]).run P w =
      .ok (goInt (Nat.min sLen dLen)) (w.setRow g (cur.toList.take o ++ cs ++ cur.toList.drop (o + cs.length)).toArray) := by
  have hl := run_loadCells_list (P := P) w a cs hsrc
  have hst := run_storeCells_at P g o t cs 0 cur w hg (by simpa using hfit) h1
  cases hq : P.info? elem with
  | none => simp [hq] at hs
  | some i =>
    have hi : i.size = s := by simpa [hq] using hs
    simp [Builtin.copy_, run_underlying hu, Builtin.lenOf, Builtin.firstCells, sizeOf, typeInfo, hq, hi, ← hn, hl, hst]
theorem info_ev6 : (Tryz.prog.info? 60).map (·.size) = some 6 := by
  have := info_ev
  cases hq : Tryz.prog.info? 60 with
  | none => rw [hq] at this; cases this
  | some i =>
    rw [hq] at this
    simp only [Option.map_some, Option.some.injEq, Prod.mk.injEq] at this
    simp [this.2.1]
/-- 'copy(l, l[m:])' of a row of events. -/
theorem evs_down {W : World} {B gq cap : Nat} {L : List Ev} (ty : TypeId) (h : Evs W B (.slice (some ⟨gq, 0, none⟩) L.length cap) L) (m : Nat) (hm : m ≤ L.length) :
    ∃ xs, (Builtin.copy_ #[43, 43] ty #[.slice (some ⟨gq, 0, none⟩) L.length cap, .slice (some ⟨gq, m * 6, none⟩) (L.length - m) (cap - m)]).run Tryz.prog W = .ok (.int .i64 ((L.length - m : Nat) : Int)) (W.setRow gq xs) ∧
      Evs (W.setRow gq xs) B (.slice (some ⟨gq, 0, none⟩) (L.length - m) cap) (L.drop m) := by
  rcases h.2 with ⟨h1, _⟩ | ⟨g', cp, cur, h1, hb, hg, hle, hmx, hsz, hcur⟩
  · simp at h1
  · simp only [Value.slice.injEq, Option.some.injEq, Addr.mk.injEq, and_true, true_and] at h1
    obtain ⟨rfl, rfl⟩ := h1
    have hd : ∀ (m : Nat) (L : List Ev), (L.drop m).flatMap ec = (L.flatMap ec).drop (m * 6) := by
      intro m
      induction m with
      | zero => intro L; simp
      | succ m ih =>
        intro L
        cases L with
        | nil => simp
        | cons x L =>
          rw [List.drop_succ_cons, ih, List.flatMap_cons, List.drop_append, List.drop_of_length_le (l := ec x) (by rw [ec_length]; omega), List.nil_append, ec_length, show (m + 1) * 6 - 6 = m * 6 by omega]
    have hlen : ((L.drop m).flatMap ec).length = (L.length - m) * 6 := by rw [ecs_length, List.length_drop]
    have hmin : Nat.min (L.length - m) L.length = L.length - m := Nat.min_eq_left (Nat.sub_le _ _)
    have hrun := run_copy_rowS (P := Tryz.prog) W 43 43 ty 60 gq 0 L.length cap ⟨gq, m * 6, none⟩ (L.length - m) (cap - m) 6 cur 60 ((L.drop m).flatMap ec) Tryz.underlying43 info_ev6 hg (by rw [hlen, hmin])
      (fun j u hj => by
        have ha : (⟨gq, m * 6, none⟩ : Addr).add j = (⟨gq, 0, none⟩ : Addr).add (m * 6 + j) := by
          unfold Addr.add
          by_cases h0 : j = 0
          · subst h0; by_cases hm0 : m * 6 = 0 <;> simp [hm0]
          · simp [h0]
        rw [ha]
        refine World.ownsRow.cells (g := gq) h rfl (m * 6 + j) u ?_
        rw [← hj, hd, List.getElem?_drop])
      (by rw [hlen]; have := hsz; omega) (one_ec _)
    rw [hmin] at hrun
    refine ⟨_, hrun, ?_⟩
    have hset := setRow_heap W gq cur (cur.toList.take 0 ++ (L.drop m).flatMap ec ++ cur.toList.drop (0 + ((L.drop m).flatMap ec).length)).toArray 60 (0, 0) hg
    have e2 : (L.drop m).length = L.length - m := List.length_drop
    refine ⟨by rw [hlen, e2], .inr ⟨gq, cap, _, by rw [e2], hb, hset, by rw [e2]; omega, hmx, ?_, ?_⟩⟩
    · simp [hlen, -List.length_flatMap]
      omega
    · rw [List.length_drop]
      simp only [List.take_zero, List.nil_append]
      rw [List.take_append_of_le_length (by rw [hlen]; omega), List.take_of_length_le (by rw [hlen]; omega)]
/-- The second loop of Step, j nodes done. -/
structure Lp (w0 W : World) (B : Nat) (a : Ga) (c : Gc) (b : Bool) (j : Nat) (vs : Nat → Value) (o : Value) (wr : World) : Prop where
  wm : WM w0 wr B { a with vs := vs } (mid c b j)
  out : Evs wr W.heap.size o (evs c b j)
  ne : ∀ i k, i < c.n → o.ownBlock = some k → (vs i).ownBlock ≠ some k
  kp : Kp (a.foot B c.n W) W wr
  fp : ∀ i k, i < c.n → (vs i).ownBlock = some k → a.foot B c.n W k ∨ W.heap.size ≤ k
  ge : w0.heap.size ≤ W.heap.size
  short : ∀ i, i < c.n → ((mid c b j).hs i).length ≤ 100
/-- Its round, node j having sampled. -/
structure Lz (w0 W : World) (B : Nat) (a : Ga) (c : Gc) (b : Bool) (j : Nat) (vs : Nat → Value) (o : Value) (O : List Ev) (hs : Nat → List Ev) (wr : World) : Prop where
  wm : WM w0 wr B { a with vs := vs } { mid c b j with ms := upd (mid c b j).ms j ((c.ms j).sample b).1, hs := hs }
  out : Evs wr W.heap.size o O
  ne : ∀ i k, i < c.n → o.ownBlock = some k → (vs i).ownBlock ≠ some k
  kp : Kp (a.foot B c.n W) W wr
  fp : ∀ i k, i < c.n → (vs i).ownBlock = some k → a.foot B c.n W k ∨ W.heap.size ≤ k
  ge : w0.heap.size ≤ W.heap.size
section
variable {w0 W wr w2 : World} {B b' : Nat} {a : Ga} {c : Gc} {b : Bool} {j : Nat} {vs : Nat → Value} {o o' v v' : Value} {L O O' : List Ev} {hs : Nat → List Ev}
theorem Lp.sampled (h : Lp w0 W B a c b j vs o wr) (hj : j < c.n) (hn : Nf w0 w2 (a.gs j) ((c.ms j).sample b).1) (hv : Evs w2 wr.heap.size v L) (k : wr.grownBy w2 (some (a.gs j))) : Lz w0 W B a c b j vs o (evs c b j) (mid c b j).hs w2 ∧ ∀ q, v.ownBlock = some q → o.ownBlock ≠ some q := by
  refine ⟨⟨h.wm.node_at (i := j) hj k hn, owns_kp h.out (Kp.of_grown k) (fun i e e2 => owns_ne h.out (h.wm.node j hj).nd.blk (by decide) (e.trans e2.symm)), h.ne, h.kp.trans (Kp.of_grown k) (fun i e => by injection e with e; exact .inl (.inr (.inr (.inr (.inl ⟨j, hj, e.symm⟩))))), h.fp, h.ge⟩, fun q e e2 => ?_⟩
  have h1 := (owns_lt hv e).1
  have h2 := (owns_lt h.out e2).2
  omega
theorem Lz.told (h : Lz w0 W B a c b j vs o O hs wr) (hr : Evs wr b' v L) (rne : ∀ q, v.ownBlock = some q → o.ownBlock ≠ some q) (r2 : Evs w2 W.heap.size o' O') (r3 : wr.grownBy w2 o.ownBlock) (r4 : o'.ownBlock = o.ownBlock ∨ o'.ownBlock = some wr.heap.size) :
    Lz w0 W B a c b j vs o' O' hs w2 ∧ Evs w2 b' v L := by
  refine ⟨⟨h.wm.beside h.out h.ge (fun i q hi e => h.ne i q hi e) r3, r2, fun i q hi e e2 => ?_, h.kp.trans (Kp.of_grown r3) (fun i e => .inr (owns_lt h.out e).1), h.fp, h.ge⟩, owns_kp hr (Kp.of_grown r3) (fun i e e2 => rne i e e2)⟩
  rcases r4 with r4 | r4
  · exact h.ne i q hi (r4 ▸ e) e2
  · rw [r4] at e; injection e with e
    have := (owns_lt (h.wm.heard i hi) e2).2
    omega
theorem Lz.grew (h : Lz w0 W B a c b j vs o O hs wr) (hj : j < c.n) (r2 : Evs w2 B v' L) (r3 : wr.grownBy w2 (vs j).ownBlock) (r4 : v'.ownBlock = (vs j).ownBlock ∨ v'.ownBlock = some wr.heap.size) (hl : L.length ≤ 200) :
    Lz w0 W B a c b j (upd vs j v') o O (upd hs j L) (w2.setCell ⟨a.gr, j * 2 + 1, none⟩ v') := by
  have kk : Kp (fun q => (vs j).ownBlock = some q ∨ q = a.gr) wr (w2.setCell ⟨a.gr, j * 2 + 1, none⟩ v') := ((Kp.of_grown r3).mono (fun q e => .inl e)).set _ _ (.inl (.inr rfl))
  refine ⟨h.wm.heard_at (i := j) hj r3 (r4.imp id (fun e => ⟨_, e, Nat.le_refl _⟩)) r2 hl, owns_kp h.out kk (fun i e e2 => ?_), fun i q hi e e2 => ?_, h.kp.trans kk (fun i e => ?_), fun i q hi e => ?_, h.ge⟩
  · rcases e2 with e2 | e2
    · exact h.ne j i hj e e2
    · exact owns_ne h.out h.wm.row (by decide) (e.trans (congrArg some e2))
  · by_cases hij : i = j
    · subst hij
      rw [upd_at] at e2
      rcases r4 with r4 | r4
      · exact h.ne i q hi e (r4 ▸ e2)
      · rw [r4] at e2; injection e2 with e2
        have := (owns_lt h.out e).2
        omega
    · rw [upd_ne _ _ hij] at e2
      exact h.ne i q hi e e2
  · rcases e with e | e
    · exact h.fp j i hj e
    · exact .inl (.inr (.inl e))
  · by_cases hij : i = j
    · subst hij
      rw [upd_at] at e
      rcases r4 with r4 | r4
      · exact h.fp i q hi (r4 ▸ e)
      · rw [r4] at e; injection e with e
        have := h.kp.size
        exact .inr (by omega)
    · rw [upd_ne _ _ hij] at e
      exact h.fp i q hi e
theorem Lz.done (h : Lz w0 W B a c b j vs o (evs c b j ++ ((c.ms j).sample b).2) hs wr) (hh : hs = upd (mid c b j).hs j (keep (c.hs j ++ ((c.ms j).sample b).2))) (h0 : ∀ i, i < c.n → ((mid c b j).hs i).length ≤ 100) : Lp w0 W B a c b (j + 1) vs o wr := by
  subst hh
  refine ⟨by rw [mid_succ]; exact h.wm, by rw [evs_succ]; exact h.out, h.ne, h.kp, h.fp, h.ge, fun i hi => ?_⟩
  rw [mid_succ]
  show List.length (upd (mid c b j).hs j (keep (c.hs j ++ ((c.ms j).sample b).2)) i) ≤ 100
  by_cases hij : i = j
  · subst hij; rw [upd_at]; exact keep_len _
  · rw [upd_ne _ _ hij]; exact h0 i hi
end
theorem upd_upd {α : Type} (f : Nat → α) (i : Nat) (x y : α) : upd (upd f i x) i y = upd f i y := by
  funext k
  unfold upd
  split <;> rfl
/-- The region that cuts a row of events. -/
structure C20 (w7 : World) (B gr at_ gq cap : Nat) (L : List Ev) (b : Nat → Bool) (W : World) : Prop where
  fst : b 15 = false → b 19 = false → W = w7.drew
  snd : b 15 = true → b 19 = false → ∃ xs, W = w7.drew.setRow gq xs ∧ Evs (w7.drew.setRow gq xs) B (.slice (some ⟨gq, 0, none⟩) 100 cap) (keep L)
  thd : b 19 = true → ∃ xs, W = (w7.drew.setRow gq xs).setCell ⟨gr, at_, none⟩ (.slice (some ⟨gq, 0, none⟩) 100 cap) ∧ Evs (w7.drew.setRow gq xs) B (.slice (some ⟨gq, 0, none⟩) 100 cap) (keep L)
  ord : b 19 = true → b 15 = true
theorem C20.up {w7 : World} {B gr at_ gq cap : Nat} {L : List Ev} {b : Nat → Bool} {W : World} (h : C20 w7 B gr at_ gq cap L b W) (i : Nat) (h1 : i ≠ 15) (h2 : i ≠ 19) : C20 w7 B gr at_ gq cap L (up b i) W := by
  have e1 : Lib.up b i 15 = b 15 := up_of_ne (fun e => h1 e.symm)
  have e2 : Lib.up b i 19 = b 19 := up_of_ne (fun e => h2 e.symm)
  exact ⟨by rw [e1, e2]; exact h.fst, by rw [e1, e2]; exact h.snd, by rw [e2]; exact h.thd, by rw [e1, e2]; exact h.ord⟩
theorem C20.row {w7 : World} {B gr at_ gq cap : Nat} {L : List Ev} {b : Nat → Bool} {W : World} (h : C20 w7 B gr at_ gq cap L b W) {T : TypeId} {cs : List Value} (hb : Blk w7 gr T cs) (hne : gr ≠ gq) (h19 : b 19 = false) : Blk W gr T cs := by
  cases h15 : b 15
  · rw [h.fst h15 h19]; exact hb
  · obtain ⟨xs, e, _⟩ := h.snd h15 h19
    rw [e]
    exact (setRow_other _ gq gr xs hne).trans hb
theorem grown_row {W : World} (g : Nat) (xs : Array Value) : W.grownBy (W.drew.setRow g xs) (some g) := ⟨rfl, rfl, rfl, by show W.heap.size ≤ (W.drew.setRow g xs).heap.size; simp [World.setRow], fun k _ hk => setRow_other W.drew g k xs (fun e => hk (by rw [e]))⟩
end Go.Proofs.YtpkpnaedacefaaaGreat.WireW


/- The walks of package wire: Step. -/
namespace Go.Proofs.YtpkpnaedacefaaaGreat.WireW
set_option linter.unusedVariables false
set_option linter.unusedSimpArgs false
open Go Go.RowKit Go.Proofs.YtpkpnaedacefaaaGreat.Lib Go.Proofs.YtpkpnaedacefaaaGreat.Bits Go.Proofs.YtpkpnaedacefaaaGreat.BitsW Go.Proofs.YtpkpnaedacefaaaGreat.Mac Go.Proofs.YtpkpnaedacefaaaGreat.MacW Go.Proofs.YtpkpnaedacefaaaGreat.WireN Go.Proofs.YtpkpnaedacefaaaGreat.BusW Go.Proofs.YtpkpnaedacefaaaGreat.PrintMore
attribute [local go_sem] max2_int min2_int max_two min_two
/-- The first loop of Step, j nodes done. -/
structure Lv (w0 W W1 : World) (B : Nat) (a : Ga) (c : Gc) (j : Nat) (v : Value) (wr : World) : Prop where
  wm : WM w0 wr B a c
  out : OwnB wr W1.heap.size 5 v (lvls c.ms j)
  kp : Kp (a.foot B c.n W) W wr
  le : W1.heap.size ≤ wr.heap.size
  ge : W.heap.size ≤ W1.heap.size
  bv : ∀ k, a.bv.ownBlock = some k → k < W1.heap.size
  g0 : w0.heap.size ≤ W.heap.size
/-- One more bit. -/
theorem Lv.next {w0 W W1 wr w2 w3 : World} {B : Nat} {a : Ga} {c : Gc} {j : Nat} {v v' : Value} (h : Lv w0 W W1 B a c j v wr) (hw : WM w0 w2 B a c) (k : Kp (a.foot B c.n W) W w2) (hs : wr.heap.size ≤ w2.heap.size) (ho : OwnB w2 W1.heap.size 5 v (lvls c.ms j)) (h3 : OwnB w3 W1.heap.size 5 v' (lvls c.ms (j + 1)))
    (hg : w2.grownBy w3 v.ownBlock) : Lv w0 W W1 B a c (j + 1) v' w3 := by
  refine ⟨hw.kpo (Kp.of_grown hg) (fun i hi e => ?_) (fun i e => Nat.le_trans h.g0 (Nat.le_trans h.ge (owns_lt ho e).1)), h3, k.trans (Kp.of_grown hg) (fun i e => .inr (Nat.le_trans h.ge (owns_lt ho e).1)), Nat.le_trans h.le (Nat.le_trans hs hg.size), h.ge, h.bv, h.g0⟩
  rcases hi with rfl | rfl | rfl | ⟨i, hi, rfl⟩ | ⟨i, hi, e2⟩ | e2
  · exact owns_ne ho hw.top (by decide) e
  · exact owns_ne ho hw.row (by decide) e
  · exact owns_ne ho hw.bus.2.1 (by decide) e
  · exact owns_ne ho (hw.node i hi).nd.blk (by decide) e
  · exact owns_ne2 ho (hw.heard i hi) (by decide) e e2
  · have := h.bv _ e2; have := (owns_lt ho e).1; omega
set_option maxRecDepth 100000 in
set_option maxHeartbeats 6400000 in
theorem step_calls {w0 W : World} {B : Nat} {a : Ga} {c : Gc} (h : WM w0 W B a c) (flip : Bool) (hbn : c.bn ≤ 1000000) (hsh : ∀ i, i < c.n → (c.hs i).length ≤ 100) : Calls Tryz.prog 11 #[.pointer (some ⟨a.gw, 0, none⟩), .bool flip] W fun e w' =>
    ∃ v a' c1, e = .returned v ∧ c1 = { c with t := c.t || flip } ∧ a'.gw = a.gw ∧ WM w0 w' B a' { mid c1 (cb c1) c.n with l := more c.l (cb c1), bn := c.bn + 1, t := false } ∧ Evs w' W.heap.size v (evs c1 (cb c1) c.n) ∧ Kp (a.foot B c.n W) W w' ∧
      (∀ k, a'.foot B c.n w' k → a.foot B c.n W k ∨ W.heap.size ≤ k) ∧ (∀ k, v.ownBlock = some k → ¬ a'.foot B c.n w' k) := by
  obtain ⟨c1, hc1⟩ : ∃ c1 : Gc, c1 = { c with t := c.t || flip } := ⟨_, rfl⟩
  obtain ⟨i0, hi, hz0, hz1, hz2⟩ := info_parts BusW.info_u8
  have HC1 := hid hc1
  have H := hid h
  have HBN := hid hbn
  have HSH := hid hsh
  have x0 := h.c0
  have x1 := h.c1
  clear h hbn hsh
  have HCN := hid (show c1.n = c.n by rw [hc1])
  cases flip
  case' false =>
    rw [Bool.or_false] at hc1
    replace hc1 : c1 = c := hc1
    have H1 := hid (show WM w0 W B a c1 ∧ Kp (a.foot B c1.n W) W W from ⟨hc1 ▸ H.out, Kp.refl _ _⟩)
    clear hc1 x0 x1
    have x0 := H1.out.1.c0
    have x1 := H1.out.1.c1
    go_enter Tryz.func11, Tryz.ntmps11
    go_wp2_with fail
  case' true =>
    rw [Bool.or_true] at hc1
    go_enter Tryz.func11, Tryz.ntmps11
    go_wp2_with fail
    refine (flip_calls B a.gb a.bv c.l c.bn c.t W H.out.bus).mono ?_
    rintro y w1 ⟨rfl, hb, hg⟩
    have k2 : Kept2 W w1 a.gb a.bv.ownBlock := ⟨hg.os, hg.tape, hg.output, hg.size, fun k hk h1 _ => hg.block k hk (fun e => h1 (by injection e))⟩
    have H1 := hid (show WM w0 w1 B a c1 ∧ Kp (a.foot B c1.n W) W w1 from ⟨by rw [hc1]; exact H.out.bus_at k2 hb H.out.ll, (Kp.of_grown hg).mono (fun i e => by injection e with e; exact .inr (.inr (.inl e.symm)))⟩)
    have x0 := H1.out.1.c0
    have x1 := H1.out.1.c1
    clear hc1 hb hg k2
    go_wp2_with fail
  all_goals
    clear x0 x1
    have HN8 := hid H1.out.1.most
    go_loopw [25, 5] (fun i v wr => ∃ j : Nat, j ≤ c1.n ∧ i = .int .i64 j ∧ ∃ W1, Lv w0 W W1 B a c1 j v wr) (fun i _ _ => c1.n - (intOf i).toNat)
    case atStart => exact ⟨0, Nat.zero_le _, rfl, _, H1.out.1, OwnB.nil _ _ _, H1.out.2, Nat.le_refl _, H1.out.2.size, fun k hk => (owns_lt H1.out.1.bus.2.2 hk).2, H.out.below.size⟩
    case round =>
      clear H1
      obtain ⟨j, hj, rfl, W1, HX⟩ := hrel
      have H6 := hid HX
      clear HX
      have x0 := H6.out.wm.c0
      have x1 := H6.out.wm.c1
      by_cases hlt : j < c1.n
      · have u0 : ((j : Int) < c1.n) = True := eq_true (by omega)
        have u1 : decide ((j : Int) < c1.n) = true := decide_eq_true (by omega)
        have u2 : IntKind.i64.wrap ((j : Int) + 1) = ((j + 1 : Nat) : Int) := by have := HN8.out; rw [IntKind.wrap_i64]; omega
        have u3 : (j < c1.n) = True := eq_true hlt
        have y0 := H6.out.wm.rm hlt
        obtain ⟨p, cap, hv⟩ := H6.out.wm.v_slice hlt
        have y1 := H6.out.wm.rv hlt
        rw [hv] at y1
        clear hv
        rcases own_len H6.out.out with ⟨rfl, _⟩ | ⟨g5, c5, rfl, _⟩
        all_goals
          have h7 := H6.out.wm.alloc (.cells #[.pointer (some ⟨a.gs j, 0, none⟩), .slice p (c1.hs j).length cap] 66)
          have H7 := hid h7
          clear h7
          go_wp2_with fail
          with_reducible refine (nf_drive (H7.out.node j hlt)).mono ?_
          rintro y w8 ⟨rfl, h8, k8⟩
          have h9 := (H7.out.node_at hlt k8 h8).congr (c' := c1) rfl (fun i _ => by show c1.ms i = upd c1.ms j (c1.ms j) i; unfold upd; split <;> simp_all) (fun _ _ => rfl) rfl rfl rfl
          have ho := owns_kp (F := fun i => some (a.gs j) = some i) (H6.out.out.alloc (.cells #[.pointer (some ⟨a.gs j, 0, none⟩), .slice p (c1.hs j).length cap] 66)) (Kp.of_grown k8) (fun i e e2 => owns_ne H6.out.out (H6.out.wm.node j hlt).nd.blk (by decide) (e.trans e2.symm))
          have hk : Kp (a.foot B c1.n W) W w8 := (H6.out.kp.alloc _).trans (Kp.of_grown k8) (fun i e => by injection e with e; exact .inl (.inr (.inr (.inr (.inl ⟨j, hlt, e.symm⟩)))))
          have hs : wr.heap.size ≤ w8.heap.size := Nat.le_trans (by simp) k8.size
          have H9 := hid h9
          have HO := hid ho
          have HK := hid hk
          have HS := hid hs
          clear h8 k8 h9 ho hk hs H7 x0 x1 y0 y1
          go_wp2_with (first | (at_builtin; refine app_byte rfl (.tmp 29) (.tmp 33) 70 rfl W1.heap.size 5 i0 Tryz.underlying70 hi hz0 hz1 hz2 (.slice none 0 0) (lvls c1.ms j) rfl HO.out (sg (c1.ms j).drive) _ rfl rfl (by rw [lvls_len]; have := HN8.out; omega) (by have := HS.out; have := H6.out.le; omega) ?_; intro v8 w9 hown9 hgrow9; rw [← lvls_succ] at hown9; have H10 := hid (Lv.next H6.out (H9.out.alloc _) (HK.out.alloc _) (Nat.le_trans HS.out (by simp)) (HO.out.alloc _) hown9 hgrow9); clear hown9 hgrow9) | (at_builtin; refine app_byte rfl (.tmp 29) (.tmp 33) 70 rfl W1.heap.size 5 i0 Tryz.underlying70 hi hz0 hz1 hz2 (.slice (some ⟨g5, 0, none⟩) (lvls c1.ms j).length c5) (lvls c1.ms j) rfl HO.out (sg (c1.ms j).drive) _ rfl rfl (by rw [lvls_len]; have := HN8.out; omega) (by have := HS.out; have := H6.out.le; omega) ?_; intro v8 w9 hown9 hgrow9; rw [← lvls_succ] at hown9; have H10 := hid (Lv.next H6.out (H9.out.alloc _) (HK.out.alloc _) (Nat.le_trans HS.out (by simp)) (HO.out.alloc _) hown9 hgrow9); clear hown9 hgrow9))
          exact ⟨⟨j + 1, by omega, rfl, W1, H10.out⟩, by simp [intOf]; omega⟩
      · obtain rfl : j = c1.n := by omega
        have HBM := hid (show c1.bn ≤ 1000000 by rw [HC1.out]; exact HBN.out)
        go_wp2_with fail
        refine region_text (by kernel_rfl) (by kernel_rfl) (fun b _ W' => (b 6 = false → W' = wr.drew) ∧ (b 6 = true → ∃ v', WM w0 W' B { a with bv := v' } { c1 with l := more c1.l (cb c1), bn := c1.bn + 1, t := false } ∧ Kp (a.foot B c1.n W) W W')) ⟨fun _ => rfl, fun e => absurd e (by decide)⟩ ?_
        refine t_pure (.pointer (some ⟨a.gw, 0, none⟩)) (fun _ => rfl) (fun b γ W h => h) (fun b γ W h _ => by go_simp) ?_
        refine t_pure (.pointer (some ⟨a.gw, 0, none⟩)) (fun _ => rfl) (fun b γ W h => h) (fun b γ W h _ => by go_simp) ?_
        refine t_pure (.pointer (some ⟨a.gw, 1, none⟩)) (fun _ => rfl) (fun b γ W h => h) (fun b γ W h _ => by go_simp) ?_
        refine t_run (.pointer (some ⟨a.gb, 0, none⟩)) (fun _ => rfl) (fun b γ W h _ _ hf => ⟨W, ?_, h⟩) ?_
        · have hq := h.1 (hf 6 _ rfl (by decide))
          subst hq
          have x2 : wr.drew.cell? ⟨a.gw, 1, none⟩ = some (.pointer (some ⟨a.gb, 0, none⟩)) := x1
          clear x0 x1
          go_simp
        refine t_pure u5 (fun _ => rfl) (fun b γ W h => h) (fun b γ W h _ => by go_simp) ?_
        refine t_run (.string ⟨(lvls c1.ms c1.n).toArray⟩) (fun _ => rfl) (fun b γ W h _ _ hf => ⟨W, ?_, h⟩) ?_
        · have hq := h.1 (hf 6 _ rfl (by decide))
          subst hq
          have hr := run_conv_own (P := Tryz.prog) (w := wr.drew) 70 9 5 Tryz.underlying70 Tryz.underlying5 Tryz.underlying9 _ _ u5 (lvls c1.ms c1.n) (owns_kp (F := fun _ => False) H6.out.out (Kp.refl _ _).drew (fun _ _ e => e))
          unfold execOp
          simp only [Sem.run_bind]
          erw [hr]
          rfl
        refine t_call (.int .u8 ((sg (cb c1)).toNat : Int)) (fun _ => rfl) (f := 27) (args := #[.pointer (some ⟨a.gb, 0, none⟩), .string ⟨(lvls c1.ms c1.n).toArray⟩]) (fun b γ W h _ => by go_simp) (fun b γ W' h hb => ?_) ?_
        · have hq := h.1 hb
          subst hq
          refine (bus_bit H6.out.wm.drew HBM.out).mono ?_
          rintro y w8 ⟨rfl, v', h1, h2, _⟩
          exact ⟨rfl, fun e => absurd e (by rw [up_at]; decide), fun _ => ⟨v', h1, H6.out.kp.drew.trans h2 (fun i hi => foot_next H6.out.kp.drew rfl rfl rfl rfl (fun i k hi e => .inl (.inr (.inr (.inr (.inr (.inl ⟨i, hi, e⟩)))))) i hi)⟩⟩
        refine t_pure (.int .u8 ((sg (cb c1)).toNat : Int)) (fun _ => rfl) (fun b γ W h => h) (fun b γ W h _ => by go_simp) ?_
        refine t_end ?_
        intro bq gq w2 hall hS
        simp only [Act.put, List.setIfInBounds_toArray, List.set_cons_zero, List.set_cons_succ]
        obtain ⟨v', hw2, hk2⟩ := hS.2 (hall 6 (by decide))
        obtain ⟨c3, hc3⟩ : ∃ c3 : Gc, c3 = { c1 with l := more c1.l (cb c1), bn := c1.bn + 1, t := false } := ⟨_, rfl⟩
        obtain ⟨a3, ha3⟩ : ∃ a3 : Ga, a3 = { a with bv := v' } := ⟨_, rfl⟩
        rw [← hc3, ← ha3] at hw2
        have HN3 := hid (show c3.n = c1.n by rw [hc3])
        have HKF := hid (show Kp (a3.foot B c3.n W) W w2 by rw [ha3, hc3]; exact hk2)
        have HSS := hid (show ∀ i, i < c3.n → (c3.hs i).length ≤ 100 by rw [hc3, HC1.out]; exact HSH.out)
        have HW2 := hid hw2
        have HC3 := hid hc3
        have HA3 := hid ha3
        obtain ⟨bt, hbt⟩ : ∃ bt, bt = cb c1 := ⟨_, rfl⟩
        have HBT := hid hbt
        have HGW := hid (show a3.gw = a.gw by rw [ha3])
        rw [← hbt]
        clear hc3 ha3 hbt hS hall hw2 hk2 x0 x1 H6
        have x0 := HW2.out.c0
        have x1 := HW2.out.c1
        rw [HGW.out] at x0 x1
        have HN9 := hid HW2.out.most
        go_wp2_with fail
        clear x0 x1
        go_loopw [48, 9] (fun i o wr => ∃ (j : Nat) (vs : Nat → Value), j ≤ c3.n ∧ i = .int .i64 j ∧ Lp w0 W B a3 c3 bt j vs o wr) (fun i _ _ => c3.n - (intOf i).toNat)
        case atStart => exact ⟨0, a3.vs, Nat.zero_le _, rfl, HW2.out, evs_nil _ _, fun _ _ _ e => by simp [Value.ownBlock] at e, HKF.out, fun i k hi e => .inl (.inr (.inr (.inr (.inr (.inl ⟨i, hi, e⟩))))), H.out.below.size, HSS.out⟩
        case round =>
          clear HKF HSS HW2
          obtain ⟨j, vs, hj, rfl, HX⟩ := hrel
          have H6 := hid HX
          clear HX
          have x0 : wr.cell? ⟨a.gw, 0, none⟩ = some (.slice (some ⟨a3.gr, 0, none⟩) c3.n c3.n) := by rw [← HGW.out]; exact H6.out.wm.c0
          by_cases hlt : j < c3.n
          · have u0 : ((j : Int) < c3.n) = True := eq_true (by omega)
            have u1 : decide ((j : Int) < c3.n) = true := decide_eq_true (by omega)
            have u2 : IntKind.i64.wrap ((j : Int) + 1) = ((j + 1 : Nat) : Int) := by have := HN9.out; rw [IntKind.wrap_i64]; omega
            have u3 : (j < c3.n) = True := eq_true hlt
            have y0 : wr.cell? ⟨a3.gr, j * 2, none⟩ = some (.pointer (some ⟨a3.gs j, 0, none⟩)) := H6.out.wm.rm hlt
            have hnd := H6.out.wm.node j hlt
            rw [mid_ms] at hnd
            go_wp2_with fail
            with_reducible refine (nf_sample hnd bt _ (sg_48b bt)).mono ?_
            rintro y w4 ⟨v, rfl, h4, hev, hg⟩
            obtain ⟨hz, hrne⟩ := H6.out.sampled hlt h4 hev hg
            have HL3 := hid (sample_short (c3.ms j) bt)
            have HZ4 := hid hz
            have HE4 := hid hev
            have HR4 := hid hrne
            have HEL := hid (evs_len c3 bt j)
            obtain ⟨o', w5, r1, r2, r3, r4⟩ := run_app2 hz.out hev hz.kp.size (by have := HEL.out; have := HN9.out; omega) (by have := HL3.out; omega)
            obtain ⟨hz5, he5⟩ := hz.told hev hrne r2 r3 r4
            have hrow := hz5.wm.row
            have y1 : w5.cell? ⟨a3.gr, j * 2 + 1, none⟩ = some (vs j) := hz5.wm.rv hlt
            have hh5 : Evs w5 B (vs j) (c3.hs j) := by
              have := hz5.wm.heard j hlt
              rw [mid_hs] at this
              exact this
            have hl5 : (c3.hs j).length ≤ 100 := by
              have := H6.out.short j hlt
              rw [mid_hs] at this
              exact this
            obtain ⟨v6, w6, q1, q2, q3, q4⟩ := run_app2 hh5 he5 hz5.wm.size (by omega) (by have := HL3.out; omega)
            have hne6 : (vs j).ownBlock ≠ some a3.gr := owns_ne hh5 hrow (by decide)
            have hb6 : Blk w6 a3.gr 66 (ncs a3.gs vs c3.n) := hrow.grown q3 (fun e => hne6 e.symm)
            have y6 : w6.cell? ⟨a3.gr, j * 2 + 1, none⟩ = some (vs j) := (hb6.cell _).trans (ncs_v a3.gs vs j c3.n hlt)
            have f6 := hb6.frozen (j * 2 + 1)
            obtain ⟨L7, hL7⟩ : ∃ L7, L7 = c3.hs j ++ ((c3.ms j).sample bt).2 := ⟨_, rfl⟩
            rw [← hL7] at q2
            have hl7 : L7.length ≤ 103 := by rw [hL7, List.length_append]; have := HL3.out; omega
            have hz7 := hz5.grew hlt q2 q3 q4 (by omega)
            obtain ⟨p6, cap6, rfl, _⟩ := evs_slice q2
            have HN7 := hid hl7
            have HL7 := hid hL7
            have u7 : IntKind.i64.wrap ((L7.length : Int) - 100) = (L7.length : Int) - 100 := by rw [IntKind.wrap_i64]; omega
            have HQ2 := hid q2
            have HZ7 := hid hz7
            have HZ5 := hid hz5
            have R1 := hid r1
            have Q1 := hid q1
            clear hnd hg hrne hz r1 r2 r3 r4 hz5 he5 hrow hh5 hl5 q1 q2 q3 q4 hne6 hz7 hl7 hL7 x0 y0 h4 hev hb6
            by_cases hc : 100 < L7.length
            · have u8 : ((L7.length : Int) - 100 > 0) = True := eq_true (by omega)
              have u9 : decide ((L7.length : Int) - 100 > 0) = true := decide_eq_true (by omega)
              have u10 : (0 < (L7.length : Int) - 100) = True := eq_true (by omega)
              have u11 : decide (0 < (L7.length : Int) - 100) = true := decide_eq_true (by omega)
              have u12 : ((100 : Int) < L7.length) = True := eq_true (by omega)
              have u13 : (100 < L7.length) = True := eq_true (by omega)
              have HC := hid hc
              clear hc
              go_wp2_with (first | (at_builtin; refine app_evs rfl (.tmp 63) (.tmp 64) rfl rfl rfl rfl R1.out ?_) | (at_builtin; refine app_evs rfl (.tmp 70) (.tmp 71) rfl rfl rfl rfl Q1.out ?_))
              obtain ⟨w7, hw7⟩ : ∃ w7, w7 = w6.setCell ⟨a3.gr, j * 2 + 1, none⟩ (.slice p6 L7.length cap6) := ⟨_, rfl⟩
              have hz7 := HZ7.out
              rw [← hw7] at hz7 ⊢
              have HW7 := hid hw7
              have HZ7 := hid hz7
              clear hw7 hz7
              obtain ⟨gq, rfl, hcq⟩ : ∃ gq, p6 = some ⟨gq, 0, none⟩ ∧ L7.length ≤ cap6 := by
                rcases HQ2.out.2 with ⟨_, hz⟩ | ⟨gq, cp, cur, e, _, _, hle, _⟩
                · have := HC.out; omega
                · injection e with e1 e2 e3
                  exact ⟨gq, e1, by omega⟩
              have he7 : Evs w7 B (.slice (some ⟨gq, 0, none⟩) L7.length cap6) L7 := by
                have := HZ7.out.wm.heard j hlt
                simp only [upd_at] at this
                exact this
              have hgq : gq ≠ a3.gr := fun e => owns_ne he7 HZ7.out.wm.row (by decide) (by rw [e]; rfl)
              have hb7 : Blk w7 a3.gr 66 (ncs a3.gs (upd vs j (.slice (some ⟨gq, 0, none⟩) L7.length cap6)) c3.n) := HZ7.out.wm.row
              have hy7 : (ncs a3.gs (upd vs j (.slice (some ⟨gq, 0, none⟩) L7.length cap6)) c3.n)[j * 2 + 1]? = some (.slice (some ⟨gq, 0, none⟩) L7.length cap6) := by rw [ncs_v _ _ j c3.n hlt, upd_at]
              have HGQ := hid hgq
              have HB7 := hid hb7
              have HY7 := hid hy7
              have HE7 := hid he7
              have HCQ := hid hcq
              clear hgq hb7 hy7 he7 hcq y1 y6 f6
              refine region_text (by kernel_rfl) (by kernel_rfl) (fun b _ W => C20 w7 B a3.gr (j * 2 + 1) gq cap6 L7 b W) ⟨fun _ _ => rfl, fun e => absurd e (by decide), fun e => absurd e (by decide), fun e => absurd e (by decide)⟩ ?_
              refine t_pure (.pointer (some ⟨a3.gr, j * 2, none⟩)) (fun _ => rfl) (fun b γ W h => h.up _ (by decide) (by decide)) (fun b γ W h _ => by go_simp) ?_
              refine t_pure (.pointer (some ⟨a3.gr, j * 2, none⟩)) (fun _ => rfl) (fun b γ W h => h.up _ (by decide) (by decide)) (fun b γ W h _ => by go_simp) ?_
              refine t_pure (.pointer (some ⟨a3.gr, j * 2, none⟩)) (fun _ => rfl) (fun b γ W h => h.up _ (by decide) (by decide)) (fun b γ W h _ => by go_simp) ?_
              refine t_pure (.pointer (some ⟨a3.gr, j * 2 + 1, none⟩)) (fun _ => rfl) (fun b γ W h => h.up _ (by decide) (by decide)) (fun b γ W h _ => by go_simp) ?_
              refine t_run (.slice (some ⟨gq, 0, none⟩) L7.length cap6) (fun _ => rfl) (fun b γ W h hb _ hf => ⟨W, ?_, h.up _ (by decide) (by decide)⟩) ?_
              · have y8 : W.cell? ⟨a3.gr, j * 2 + 1, none⟩ = some (.slice (some ⟨gq, 0, none⟩) L7.length cap6) := (Blk.cell (h.row HB7.out HGQ.out.symm (hf 19 _ rfl (by decide))) _).trans HY7.out
                go_simp
              refine t_pure (.pointer (some ⟨a3.gr, j * 2, none⟩)) (fun _ => rfl) (fun b γ W h => h.up _ (by decide) (by decide)) (fun b γ W h _ => by go_simp) ?_
              refine t_pure (.pointer (some ⟨a3.gr, j * 2, none⟩)) (fun _ => rfl) (fun b γ W h => h.up _ (by decide) (by decide)) (fun b γ W h _ => by go_simp) ?_
              refine t_pure (.pointer (some ⟨a3.gr, j * 2 + 1, none⟩)) (fun _ => rfl) (fun b γ W h => h.up _ (by decide) (by decide)) (fun b γ W h _ => by go_simp) ?_
              refine t_run (.slice (some ⟨gq, 0, none⟩) L7.length cap6) (fun _ => rfl) (fun b γ W h hb _ hf => ⟨W, ?_, h.up _ (by decide) (by decide)⟩) ?_
              · have y8 : W.cell? ⟨a3.gr, j * 2 + 1, none⟩ = some (.slice (some ⟨gq, 0, none⟩) L7.length cap6) := (Blk.cell (h.row HB7.out HGQ.out.symm (hf 19 _ rfl (by decide))) _).trans HY7.out
                go_simp
              refine t_pure (.pointer (some ⟨a3.gr, j * 2, none⟩)) (fun _ => rfl) (fun b γ W h => h.up _ (by decide) (by decide)) (fun b γ W h _ => by go_simp) ?_
              refine t_pure (.pointer (some ⟨a3.gr, j * 2, none⟩)) (fun _ => rfl) (fun b γ W h => h.up _ (by decide) (by decide)) (fun b γ W h _ => by go_simp) ?_
              refine t_pure (.pointer (some ⟨a3.gr, j * 2 + 1, none⟩)) (fun _ => rfl) (fun b γ W h => h.up _ (by decide) (by decide)) (fun b γ W h _ => by go_simp) ?_
              refine t_run (.slice (some ⟨gq, 0, none⟩) L7.length cap6) (fun _ => rfl) (fun b γ W h hb _ hf => ⟨W, ?_, h.up _ (by decide) (by decide)⟩) ?_
              · have y8 : W.cell? ⟨a3.gr, j * 2 + 1, none⟩ = some (.slice (some ⟨gq, 0, none⟩) L7.length cap6) := (Blk.cell (h.row HB7.out HGQ.out.symm (hf 19 _ rfl (by decide))) _).trans HY7.out
                go_simp
              refine t_pure (.int .i64 ((L7.length : Int) - 100)) (fun _ => rfl) (fun b γ W h => h.up _ (by decide) (by decide)) (fun b γ W h _ => by go_simp) ?_
              refine t_pure (.slice (some ⟨gq, (L7.length - 100) * 6, none⟩) 100 (cap6 - (L7.length - 100))) (fun _ => rfl) (fun b γ W h => h.up _ (by decide) (by decide)) (fun b γ W h _ => ?_) ?_
              · have q1 := HC.out
                have q0 := HCQ.out
                have q2 : (0 : Int) ≤ (L7.length : Int) - 100 := by omega
                have q3 : (L7.length : Int) - 100 ≤ L7.length := by omega
                have q4 : ((L7.length : Int) - 100).toNat = L7.length - 100 := by omega
                have q5 : L7.length - (L7.length - 100) = 100 := by omega
                have q6 : (cap6 = L7.length - 100) = False := eq_false (by omega)
                have q7 : ((L7.length : Int) < 100) = False := eq_false (by omega)
                go_simp
              refine t_run (.int .i64 100) (fun _ => rfl) (fun b γ W h hb hn hf => ?_) ?_
              · have h19 : b 19 = false := hf 19 _ rfl (by decide)
                have q1 := HC.out
                obtain rfl := h.fst hb h19
                obtain ⟨xs, z1, z2⟩ := evs_down (W := w7.drew) 3 (owns_kp (F := fun _ => False) HE7.out (Kp.refl _ _).drew (fun _ _ e => e)) (L7.length - 100) (by omega)
                rw [show L7.length - (L7.length - 100) = 100 by omega] at z1 z2
                have e15 : Lib.up b 15 15 = true := up_at _ _
                have e19 : Lib.up b 15 19 = false := by rw [up_of_ne (by decide), h19]
                refine ⟨w7.drew.setRow gq xs, ?_, fun e => absurd (e15.symm.trans e) Bool.noConfusion, fun _ _ => ⟨xs, rfl, z2⟩, fun e => absurd (e19.symm.trans e) Bool.noConfusion, fun e => absurd (e19.symm.trans e) Bool.noConfusion⟩
                clear z2 hn hf e15 e19 h19
                go_simp
              refine t_pure (.slice (some ⟨gq, 0, none⟩) 100 cap6) (fun _ => rfl) (fun b γ W h => h.up _ (by decide) (by decide)) (fun b γ W h _ => ?_) ?_
              · have q1 := HC.out
                have q0 := HCQ.out
                have q2 : ((100 : Int) ≤ cap6) := by omega
                have q3 : (100 ≤ cap6) := by omega
                go_simp
              refine t_pure (.pointer (some ⟨a3.gr, j * 2, none⟩)) (fun _ => rfl) (fun b γ W h => h.up _ (by decide) (by decide)) (fun b γ W h _ => by go_simp) ?_
              refine t_pure (.pointer (some ⟨a3.gr, j * 2 + 1, none⟩)) (fun _ => rfl) (fun b γ W h => h.up _ (by decide) (by decide)) (fun b γ W h _ => by go_simp) ?_
              refine t_store (fun _ => rfl) (fun b γ W h hb hn hf => ⟨W.setCell ⟨a3.gr, j * 2 + 1, none⟩ (.slice (some ⟨gq, 0, none⟩) 100 cap6), ?_, ?_⟩) ?_
              · have hbw := h.row HB7.out HGQ.out.symm hb
                have y8 : W.cell? ⟨a3.gr, j * 2 + 1, none⟩ = some (.slice (some ⟨gq, 0, none⟩) L7.length cap6) := (hbw.cell _).trans HY7.out
                have y9 := hbw.frozen (j * 2 + 1)
                go_simp
              · have h15 : b 15 = true := hn 15 (by decide)
                obtain ⟨xs, rfl, z2⟩ := h.snd h15 hb
                have e15 : Lib.up b 19 15 = true := by rw [up_of_ne (by decide), h15]
                have e19 : Lib.up b 19 19 = true := up_at _ _
                exact ⟨fun e => absurd (e15.symm.trans e) Bool.noConfusion, fun _ e => absurd (e19.symm.trans e) Bool.noConfusion, fun _ => ⟨xs, rfl, z2⟩, fun _ => e15⟩
              refine t_end ?_
              intro bq gq2 w9 hall hS
              simp only [Act.put, List.setIfInBounds_toArray, List.set_cons_zero, List.set_cons_succ]
              obtain ⟨xs, hw9, z2⟩ := hS.thd (hall 19 (by decide))
              have hz9 := HZ7.out.grew hlt z2 (by rw [upd_at]; exact grown_row gq xs) (.inl (by rw [upd_at]; rfl)) (by have := keep_len L7; omega)
              rw [upd_upd, upd_upd, ← hw9] at hz9
              have HZ9 := hid (hz9.done (by rw [← HL7.out]) H6.out.short)
              clear hz9 hw9 z2 hS hall
              go_wp2_with fail
              exact ⟨⟨j + 1, _, by omega, rfl, HZ9.out⟩, by simp [intOf]; omega⟩
            · have u8 : ((L7.length : Int) - 100 > 0) = False := eq_false (by omega)
              have u9 : decide ((L7.length : Int) - 100 > 0) = false := decide_eq_false (by omega)
              have u10 : (0 < (L7.length : Int) - 100) = False := eq_false (by omega)
              have u11 : decide (0 < (L7.length : Int) - 100) = false := decide_eq_false (by omega)
              have u12 : ((100 : Int) < L7.length) = False := eq_false (by omega)
              have u13 : (100 < L7.length) = False := eq_false (by omega)
              have HC := hid hc
              clear hc
              go_wp2_with (first | (at_builtin; refine app_evs rfl (.tmp 63) (.tmp 64) rfl rfl rfl rfl R1.out ?_) | (at_builtin; refine app_evs rfl (.tmp 70) (.tmp 71) rfl rfl rfl rfl Q1.out ?_))
              exact ⟨⟨j + 1, _, by omega, rfl, HZ7.out.done (by rw [← HL7.out]; unfold keep; rw [show L7.length - 100 = 0 by have := HC.out; omega]; rfl) H6.out.short⟩, by simp [intOf]; omega⟩
          · obtain rfl : j = c3.n := by omega
            go_wp2_with fail
            go_ret
            have hp := H6.out
            have hn : c3.n = c.n := by rw [HN3.out, HCN.out]
            have hf : ∀ q, Ga.foot { a3 with vs := vs } B c.n wr q → a.foot B c.n W q ∨ W.heap.size ≤ q := by
              have hk := hp.kp
              have hfp := hp.fp
              rw [HA3.out, hn] at hk hfp
              rw [HA3.out]
              exact foot_next hk rfl rfl rfl rfl hfp
            have hm : WM w0 wr B { a3 with vs := vs } { mid c1 (cb c1) c.n with l := more c.l (cb c1), bn := c.bn + 1, t := false } := by
              have e : mid c3 bt c3.n = { mid c1 (cb c1) c.n with l := more c.l (cb c1), bn := c.bn + 1, t := false } := by
                rw [HC3.out, HBT.out, HC1.out]
                rfl
              rw [← e]
              exact hp.wm
            refine ⟨_, { a3 with vs := vs }, c1, rfl, HC1.out, HGW.out, hm, ?_, ?_, hf, ?_⟩
            · have e : evs c3 bt c3.n = evs c1 (cb c1) c.n := by
                rw [HC3.out, HBT.out, HC1.out]
                rfl
              rw [← e]
              exact hp.out
            · have hk := hp.kp
              rw [HA3.out, hn] at hk
              exact hk
            · intro q hq e
              rcases e with rfl | rfl | rfl | ⟨i, hi, rfl⟩ | ⟨i, hi, e⟩ | ⟨_, e⟩
              · exact owns_ne hp.out hm.top (by decide) hq
              · exact owns_ne hp.out hm.row (by decide) hq
              · exact owns_ne hp.out hm.bus.2.1 (by decide) hq
              · exact owns_ne hp.out (hm.node i (by show i < c1.n; rw [HCN.out]; exact hi)).nd.blk (by decide) hq
              · exact hp.ne i q (by omega) hq e
              · exact owns_not8 hp.out (by decide) hq e
end Go.Proofs.YtpkpnaedacefaaaGreat.WireW
