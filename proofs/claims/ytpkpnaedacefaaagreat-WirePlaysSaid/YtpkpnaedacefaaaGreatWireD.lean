/- The walks of package wire: New. -/
import Derived.Test.YtpkpnaedacefaaaGreatWireA
namespace Go.Proofs.YtpkpnaedacefaaaGreat.WireW
set_option linter.unusedVariables false
set_option linter.unusedSimpArgs false
open Go Go.RowKit Go.Proofs.YtpkpnaedacefaaaGreat.Lib Go.Proofs.YtpkpnaedacefaaaGreat.Bits Go.Proofs.YtpkpnaedacefaaaGreat.BitsW Go.Proofs.YtpkpnaedacefaaaGreat.Mac Go.Proofs.YtpkpnaedacefaaaGreat.MacW Go.Proofs.YtpkpnaedacefaaaGreat.WireN Go.Proofs.YtpkpnaedacefaaaGreat.BusW Go.Proofs.YtpkpnaedacefaaaGreat.PrintMore
attribute [local go_sem] max2_int min2_int max_two min_two
section
variable {P : Program} {ops : Array Oper} {S : (Nat → Bool) → (Nat → Nat) → World → Prop} {Fin : ((Nat → Nat) → Act) → Prop} {i : Nat} {o : Oper} {rest : List Oper} {a : (Nat → Nat) → Act}
/-- An operation whose value hangs on a number that it finds, and on those of what it waits for. -/
theorem t_any (v : (Nat → Nat) → Value) (hv : Hangs ops i v) (hw : ∀ g, Region.wanted o (yielded ops (a g).tmps) = true)
    (h : ∀ b g w, S b g w → b i = false → (∀ j ∈ needsOf o, b j = true) → (∀ j p, ops[j]? = some p → i ∈ needsOf p → b j = false) → ∃ n w', (execOp (a g).eval o).run P w = .ok (.value (v (Lib.upd g i n))) w' ∧ S (up b i) (Lib.upd g i n) w')
    (hr : TextRun P ops S Fin (i + 1) rest (fun g => (a g).put o.dst (v g))) : TextRun P ops S Fin i (o :: rest) a :=
  ⟨v, hv, fun b g w hs hb hj hf => .inl ⟨hw g, by
    obtain ⟨n, w', h1, h2⟩ := h b g w hs hb hj hf
    unfold Oper.wp
    rw [h1]
    exact ⟨n, rfl, h2⟩⟩, hr⟩
end
/-- The cells of a row of nodes, in general. -/
def rcs (ps vs : Nat → Value) : Nat → List Value
  | 0 => []
  | n + 1 => rcs ps vs n ++ [ps n, vs n]
theorem rcs_len (ps vs : Nat → Value) : ∀ n, (rcs ps vs n).length = n * 2
  | 0 => rfl
  | n + 1 => by rw [rcs, List.length_append, rcs_len ps vs n]; simp; omega
theorem rcs_congr {ps ps' vs vs' : Nat → Value} : ∀ n, (∀ i, i < n → ps i = ps' i) → (∀ i, i < n → vs i = vs' i) → rcs ps vs n = rcs ps' vs' n
  | 0, _, _ => rfl
  | n + 1, h1, h2 => by
    rw [rcs, rcs, rcs_congr n (fun i hi => h1 i (by omega)) (fun i hi => h2 i (by omega)), h1 n (by omega), h2 n (by omega)]
theorem rcs_set (ps vs : Nat → Value) (i : Nat) (v : Value) : ∀ n, i < n → (rcs ps vs n).set (i * 2) v = rcs (upd ps i v) vs n
  | 0, h => by omega
  | n + 1, h => by
    rw [rcs, rcs]
    by_cases hi : i < n
    · rw [List.set_append_left _ _ (by rw [rcs_len]; omega), rcs_set ps vs i v n hi, upd_ne ps v (by omega)]
    · obtain rfl : i = n := by omega
      rw [List.set_append_right _ _ (by rw [rcs_len]; omega), rcs_len, Nat.sub_self, rcs_congr (ps' := upd ps i v) i (fun k hk => (upd_ne ps v (by omega)).symm) (fun _ _ => rfl), upd_at]
      rfl
theorem ncs_rcs (gs : Nat → Nat) (vs : Nat → Value) : ∀ n, ncs gs vs n = rcs (fun i => .pointer (some ⟨gs i, 0, none⟩)) vs n
  | 0 => rfl
  | n + 1 => by rw [ncs, rcs, ncs_rcs gs vs n]
theorem rcs_p (ps vs : Nat → Value) (i : Nat) : ∀ n, i < n → (rcs ps vs n)[i * 2]? = some (ps i)
  | 0, h => by omega
  | n + 1, h => by
    rw [rcs]
    by_cases hi : i < n
    · rw [List.getElem?_append_left (by rw [rcs_len]; omega)]
      exact rcs_p ps vs i n hi
    · obtain rfl : i = n := by omega
      rw [List.getElem?_append_right (by rw [rcs_len]; omega), rcs_len, Nat.sub_self]
      rfl
theorem info_node : (Tryz.prog.info? 66).map (fun i => (i.zero.map (fun z => z.cells), i.size, i.bytes)) = some (some #[.pointer none, .slice none 0 0], 2, 32) := by kernel_rfl
theorem made_two (x y : Value) : ∀ n, (List.range (n * 2)).map (fun i => (#[x, y] : Array Value)[i % 2]!) = rcs (fun _ => x) (fun _ => y) n
  | 0 => rfl
  | n + 1 => by
    rw [show (n + 1) * 2 = n * 2 + 1 + 1 by omega, List.range_succ, List.range_succ, List.map_append, List.map_append, made_two x y n, rcs, List.append_assoc]
    simp [show (n * 2) % 2 = 0 by omega, show (n * 2 + 1) % 2 = 1 by omega]
theorem rcs_made (n : Nat) : madeCells #[.pointer none, .slice none 0 0] (n * 2) = (rcs (fun _ => .pointer none) (fun _ => .slice none 0 0) n).toArray := by
  apply Array.toList_inj.1
  rw [← made_two]
  simp [madeCells]
theorem make_nodes (k : Nat) (h1 : 1 ≤ k) (h8 : k ≤ 8) (w : World) : (Instr.makeSlice 61 (.int .i64 k) (.int .i64 k)).run Tryz.prog w = .ok (.slice (some ⟨w.heap.size, 0, none⟩) k k) (w.alloc (.cells (rcs (fun _ => .pointer none) (fun _ => .slice none 0 0) k).toArray 66)) := by
  have hi := info_node
  cases hq : Tryz.prog.info? 66 with
  | none => rw [hq] at hi; cases hi
  | some i =>
    rw [hq] at hi
    simp only [Option.map_some, Option.some.injEq, Prod.mk.injEq] at hi
    obtain ⟨hz, hs, hb⟩ := hi
    cases hz0 : i.zero with
    | none => rw [hz0] at hz; cases hz
    | some z =>
      rw [hz0] at hz
      simp only [Option.map_some, Option.some.injEq] at hz
      have := run_make (P := Tryz.prog) w 61 66 i z Tryz.underlying61 hq hz0 .i64 .i64 k k (by omega) (Int.le_refl _) (by rw [hb]; omega) (by omega)
      rw [this, hs, hz]
      simp only [Int.toNat_natCast]
      rw [rcs_made k]
/-- What the region that makes the wire keeps. -/
structure N1 (w : World) (k : Nat) (b : Nat → Bool) (γ : Nat → Nat) (W : World) : Prop where
  below : Below w.heap.size w W
  row : b 3 = true → w.heap.size ≤ γ 3 ∧ Blk W (γ 3) 66 (rcs (fun _ => .pointer none) (fun _ => .slice none 0 0) k)
  bus : b 4 = true → w.heap.size ≤ γ 4 ∧ IsBus W w.heap.size (γ 4) (.slice none 0 0) [] 0 false
  o5 : b 5 = true → b 3 = true ∧ b 4 = true
  o6 : b 6 = true → b 5 = true
  top : b 6 = true → w.heap.size ≤ γ 6 ∧ Blk W (γ 6) 63 [.slice (some ⟨γ 3, 0, none⟩) k k, .pointer (some ⟨γ 4, 0, none⟩)]
theorem N1.up {w : World} {k : Nat} {b : Nat → Bool} {γ : Nat → Nat} {W : World} (h : N1 w k b γ W) (i : Nat) (h3 : i ≠ 3) (h4 : i ≠ 4) (h5 : i ≠ 5) (h6 : i ≠ 6) : N1 w k (up b i) γ W := by
  have e3 : Lib.up b i 3 = b 3 := up_of_ne (fun e => h3 e.symm)
  have e4 : Lib.up b i 4 = b 4 := up_of_ne (fun e => h4 e.symm)
  have e5 : Lib.up b i 5 = b 5 := up_of_ne (fun e => h5 e.symm)
  have e6 : Lib.up b i 6 = b 6 := up_of_ne (fun e => h6 e.symm)
  exact ⟨h.below, by rw [e3]; exact h.row, by rw [e4]; exact h.bus, by rw [e3, e4, e5]; exact h.o5, by rw [e5, e6]; exact h.o6, by rw [e6]; exact h.top⟩
/-- The wire while its nodes are made: j of them are. -/
structure N2 (w W : World) (k j gw gr gb : Nat) (gs : Nat → Nat) : Prop where
  top : Blk W gw 63 [.slice (some ⟨gr, 0, none⟩) k k, .pointer (some ⟨gb, 0, none⟩)]
  row : Blk W gr 66 (rcs (fun i => if i < j then .pointer (some ⟨gs i, 0, none⟩) else .pointer none) (fun _ => .slice none 0 0) k)
  bus : IsBus W w.heap.size gb (.slice none 0 0) [] 0 false
  node : ∀ i, i < j → Nf w W (gs i) M.new
  inj : ∀ i i', i < j → i' < j → gs i = gs i' → i = i'
  below : Below w.heap.size w W
  lw : w.heap.size ≤ gw
  lr : w.heap.size ≤ gr
theorem N2.later {w W W' : World} {k j gw gr gb : Nat} {gs : Nat → Nat} (h : N2 w W k j gw gr gb gs) (q : Below W.heap.size W W') : N2 w W' k j gw gr gb gs :=
  ⟨h.top.below q, h.row.below q, bus_kp (F := fun _ => False) h.bus (Kp.of_below q _) (fun e => e) (fun _ _ e => e), fun i hi => (h.node i hi).later q, h.inj, h.below.trans (q.mono h.below.size), h.lw, h.lr⟩
/-- One more. -/
theorem N2.put {w W : World} {k j gw gr gb q : Nat} {gs : Nat → Nat} (h : N2 w W k j gw gr gb gs) (hj : j < k) (hq : Nf w W q M.new) (hn : ∀ i, i < j → gs i ≠ q) : N2 w (W.setCell ⟨gr, j * 2, none⟩ (.pointer (some ⟨q, 0, none⟩))) k (j + 1) gw gr gb (upd gs j q) := by
  have kk : Kp (fun i => i = gr) W (W.setCell ⟨gr, j * 2, none⟩ (.pointer (some ⟨q, 0, none⟩))) := (Kp.refl _ _).set _ _ (.inl rfl)
  have hF : ∀ i, i = gr → w.heap.size ≤ i := fun i e => e ▸ h.lr
  have rw1 := h.row.set (j * 2) (.pointer (some ⟨q, 0, none⟩))
  rw [rcs_set _ _ _ _ _ hj] at rw1
  refine ⟨blk_kp h.top kk (h.top.ne h.row (by decide)), ?_, bus_kp h.bus kk (h.bus.2.1.ne h.row (by decide)) (fun i e => by simp [Value.ownBlock] at e), fun i hi => ?_, fun i i' hi hi' e => ?_, kk.below h.below h.below.size hF, h.lw, h.lr⟩
  · rw [rcs_congr (ps' := upd (fun i => if i < j then Value.pointer (some ⟨gs i, 0, none⟩) else .pointer none) j (.pointer (some ⟨q, 0, none⟩))) k (fun i _ => ?_) (fun _ _ => rfl)]
    · exact rw1
    · unfold upd
      by_cases hij : i = j
      · rw [if_pos (by omega), if_pos hij, if_pos hij]
      · rw [if_neg hij, if_neg hij]
        show _ = if i < j then _ else _
        by_cases hl : i < j
        · rw [if_pos (by omega), if_pos hl]
        · rw [if_neg (by omega), if_neg hl]
  · by_cases hij : i = j
    · subst hij; rw [upd_at]; exact nf_kp hq kk (hq.nd.blk.ne h.row (by decide)) hF
    · rw [upd_ne _ _ hij]
      have := h.node i (by omega)
      exact nf_kp this kk (this.nd.blk.ne h.row (by decide)) hF
  · by_cases h1 : i = j
    · by_cases h2 : i' = j
      · rw [h1, h2]
      · subst h1; rw [upd_at, upd_ne _ _ h2] at e; exact absurd e.symm (hn i' (by omega))
    · by_cases h2 : i' = j
      · subst h2; rw [upd_at, upd_ne _ _ h1] at e; exact absurd e (hn i (by omega))
      · rw [upd_ne _ _ h1, upd_ne _ _ h2] at e; exact h.inj i i' (by omega) (by omega) e
/-- What the region that makes a node keeps. -/
structure N3 (w W0 : World) (k j gw gr gb : Nat) (gs : Nat → Nat) (b : Nat → Bool) (γ : Nat → Nat) (W : World) : Prop where
  pre : b 8 = false → N2 w W k j gw gr gb gs
  made : b 5 = true → b 8 = false → Nf w W (γ 5) M.new ∧ ∀ i, i < j → gs i ≠ γ 5
  old : b 8 = false → Below W0.heap.size W0 W
  post : b 8 = true → N2 w W k (j + 1) gw gr gb (upd gs j (γ 5))
  o8 : b 8 = true → b 5 = true
  top : Blk W gw 63 [.slice (some ⟨gr, 0, none⟩) k k, .pointer (some ⟨gb, 0, none⟩)]
theorem N3.up {w W0 : World} {k j gw gr gb : Nat} {gs : Nat → Nat} {b : Nat → Bool} {γ : Nat → Nat} {W : World} (h : N3 w W0 k j gw gr gb gs b γ W) (i : Nat) (h5 : i ≠ 5) (h8 : i ≠ 8) : N3 w W0 k j gw gr gb gs (up b i) γ W := by
  have e5 : Lib.up b i 5 = b 5 := up_of_ne (fun e => h5 e.symm)
  have e8 : Lib.up b i 8 = b 8 := up_of_ne (fun e => h8 e.symm)
  exact ⟨by rw [e8]; exact h.pre, by rw [e5, e8]; exact h.made, by rw [e8]; exact h.old, by rw [e8]; exact h.post, by rw [e5, e8]; exact h.o8, h.top⟩
end Go.Proofs.YtpkpnaedacefaaaGreat.WireW


/- The walks of package wire: New, walked. -/
namespace Go.Proofs.YtpkpnaedacefaaaGreat.WireW
set_option linter.unusedVariables false
set_option linter.unusedSimpArgs false
open Go Go.RowKit Go.Proofs.YtpkpnaedacefaaaGreat.Lib Go.Proofs.YtpkpnaedacefaaaGreat.Bits Go.Proofs.YtpkpnaedacefaaaGreat.BitsW Go.Proofs.YtpkpnaedacefaaaGreat.Mac Go.Proofs.YtpkpnaedacefaaaGreat.MacW Go.Proofs.YtpkpnaedacefaaaGreat.WireN Go.Proofs.YtpkpnaedacefaaaGreat.BusW Go.Proofs.YtpkpnaedacefaaaGreat.PrintMore
attribute [local go_sem] max2_int min2_int max_two min_two
/-- How many nodes there are. -/
def kOf (n : Int) : Nat := (if 8 < (if n < 1 then 1 else n) then 8 else if n < 1 then 1 else n).toNat
theorem k_eq (n : Int) : (if 8 < (if n < 1 then 1 else n) then 8 else if n < 1 then 1 else n) = (kOf n : Int) := by
  unfold kOf
  split <;> split <;> omega
theorem k_pos (n : Int) : 1 ≤ kOf n ∧ kOf n ≤ 8 := by
  unfold kOf
  split <;> split <;> omega
set_option maxRecDepth 100000 in
set_option maxHeartbeats 3200000 in
theorem new_calls (n : Int) (w : World) : Calls Tryz.prog 5 #[.int .i64 n] w fun e w' => ∃ gw gr gb gs, e = .returned (.pointer (some ⟨gw, 0, none⟩)) ∧ N2 w w' (kOf n) (kOf n) gw gr gb gs := by
  obtain ⟨k, hk⟩ : ∃ k, k = kOf n := ⟨_, rfl⟩
  have e7 := k_eq n
  obtain ⟨h1, h8⟩ := k_pos n
  rw [← hk] at e7 h1 h8 ⊢
  have E7 := hid e7
  have H1 := hid h1
  have H8 := hid h8
  clear e7 h1 h8 hk
  go_enter Tryz.func5, Tryz.ntmps5
  go_wp2_with fail
  refine region_text (by kernel_rfl) (by kernel_rfl) (N1 w k) ⟨(Below.refl _ w).drew, fun e => absurd e (by decide), fun e => absurd e (by decide), fun e => absurd e (by decide), fun e => absurd e (by decide), fun e => absurd e (by decide)⟩ ?_
  refine t_pure (.int .i64 n) (fun _ => rfl) (fun b γ W h => h.up _ (by decide) (by decide) (by decide) (by decide)) (fun b γ W h _ => by go_simp) ?_
  refine t_pure (.int .i64 (if n < 1 then 1 else n)) (fun _ => rfl) (fun b γ W h => h.up _ (by decide) (by decide) (by decide) (by decide)) (fun b γ W h _ => by go_simp) ?_
  refine t_pure (.int .i64 k) (fun _ => rfl) (fun b γ W h => h.up _ (by decide) (by decide) (by decide) (by decide)) (fun b γ W h _ => by rw [← E7.out]; go_simp) ?_
  refine t_any (fun γ => .slice (some ⟨γ 3, 0, none⟩) k k) (fun γ γ' hg => by simp only; rw [hg 3 (.inl rfl)]) (fun _ => rfl) (fun b γ W h hb _ hf => ⟨W.heap.size, W.alloc (.cells (rcs (fun _ => .pointer none) (fun _ => .slice none 0 0) k).toArray 66), ?_, ?_⟩) ?_
  · have hr := make_nodes k H1.out H8.out W
    unfold execOp
    simp only [Sem.run_bind]
    erw [hr]
    rfl
  · have h5 : b 5 = false := hf 5 _ rfl (by decide)
    have h6 : b 6 = false := by
      cases h6 : b 6
      · rfl
      · rw [h.o6 h6] at h5; cases h5
    have e3 : Lib.up b 3 3 = true := up_at _ _
    have e4 : Lib.up b 3 4 = b 4 := up_of_ne (by decide)
    have e5 : Lib.up b 3 5 = false := by rw [up_of_ne (by decide), h5]
    have e6 : Lib.up b 3 6 = false := by rw [up_of_ne (by decide), h6]
    have g3 : Lib.upd γ 3 W.heap.size 3 = W.heap.size := by simp [Lib.upd]
    have g4 : Lib.upd γ 3 W.heap.size 4 = γ 4 := by simp [Lib.upd]
    refine ⟨h.below.alloc h.below.size _, fun _ => ?_, fun q => ?_, fun q => absurd (e5.symm.trans q) Bool.false_ne_true, fun q => absurd (e6.symm.trans q) Bool.false_ne_true, fun q => absurd (e6.symm.trans q) Bool.false_ne_true⟩
    · rw [g3]; exact ⟨h.below.size, Blk.new W _ _⟩
    · rw [e4] at q
      rw [g4]
      obtain ⟨q1, q2⟩ := h.bus q
      exact ⟨q1, bus_kp (F := fun _ => False) q2 ((Kp.refl _ _).alloc _) (fun e => e) (fun _ _ e => e)⟩
  refine t_callN (f := 19) (args := #[]) (fun n => .pointer (some ⟨n, 0, none⟩)) (fun _ => rfl) (fun b γ W h _ => by go_simp) (fun b γ W h hb hf => ?_) ?_
  · have h5 : b 5 = false := hf 5 _ rfl (by decide)
    have h6 : b 6 = false := by
      cases h6 : b 6
      · rfl
      · rw [h.o6 h6] at h5; cases h5
    have e3 : Lib.up b 4 3 = b 3 := up_of_ne (by decide)
    have e5 : Lib.up b 4 5 = false := by rw [up_of_ne (by decide), h5]
    have e6 : Lib.up b 4 6 = false := by rw [up_of_ne (by decide), h6]
    refine (BusW.new_calls W).mono ?_
    rintro y w5 ⟨rfl, hb5, hg5⟩
    have g3 : Lib.upd γ 4 W.heap.size 3 = γ 3 := by simp [Lib.upd]
    have g4 : Lib.upd γ 4 W.heap.size 4 = W.heap.size := by simp [Lib.upd]
    have bl := below_none hg5
    refine ⟨W.heap.size, rfl, h.below.trans (bl.mono h.below.size), fun q => ?_, fun _ => ?_, fun q => absurd (e5.symm.trans q) Bool.false_ne_true, fun q => absurd (e6.symm.trans q) Bool.false_ne_true, fun q => absurd (e6.symm.trans q) Bool.false_ne_true⟩
    · rw [e3] at q; rw [g3]
      exact ⟨(h.row q).1, (h.row q).2.below bl⟩
    · rw [g4]; exact ⟨h.below.size, ⟨h.below.size, hb5.2.1, World.ownsRow_nil _ _ _ 1⟩⟩
  refine t_any (fun γ => .agg #[.slice (some ⟨γ 3, 0, none⟩) k k, .pointer (some ⟨γ 4, 0, none⟩)]) (fun γ γ' hg => by simp only; rw [hg 3 (.inr (.one rfl (by decide))), hg 4 (.inr (.one rfl (by decide)))]) (fun _ => rfl) (fun b γ W h hb hn hf => ⟨γ 5, W, ?_, ?_⟩) ?_
  · have g3 : Lib.upd γ 5 (γ 5) = γ := by funext j; unfold Lib.upd; split <;> simp_all
    rw [g3]; go_simp
  · have g3 : Lib.upd γ 5 (γ 5) = γ := by funext j; unfold Lib.upd; split <;> simp_all
    rw [g3]
    have h6 : b 6 = false := hf 6 _ rfl (by decide)
    have e3 : Lib.up b 5 3 = b 3 := up_of_ne (by decide)
    have e4 : Lib.up b 5 4 = b 4 := up_of_ne (by decide)
    have e6 : Lib.up b 5 6 = false := by rw [up_of_ne (by decide), h6]
    exact ⟨h.below, by rw [e3]; exact h.row, by rw [e4]; exact h.bus, fun _ => by rw [e3, e4]; exact ⟨hn 3 (by decide), hn 4 (by decide)⟩, fun q => absurd (e6.symm.trans q) Bool.false_ne_true, fun q => absurd (e6.symm.trans q) Bool.false_ne_true⟩
  refine t_any (fun γ => .pointer (some ⟨γ 6, 0, none⟩)) (fun γ γ' hg => by simp only; rw [hg 6 (.inl rfl)]) (fun _ => rfl) (fun b γ W h hb hn hf => ⟨W.heap.size, W.alloc (.cells #[.slice (some ⟨γ 3, 0, none⟩) k k, .pointer (some ⟨γ 4, 0, none⟩)] 63), ?_, ?_⟩) ?_
  · have g3 : Lib.upd γ 6 W.heap.size 6 = W.heap.size := by simp [Lib.upd]
    rw [g3]; go_simp
  · have h5 : b 5 = true := hn 5 (by decide)
    obtain ⟨h3, h4⟩ := h.o5 h5
    have e3 : Lib.up b 6 3 = true := by rw [up_of_ne (by decide), h3]
    have e4 : Lib.up b 6 4 = true := by rw [up_of_ne (by decide), h4]
    have e5 : Lib.up b 6 5 = true := by rw [up_of_ne (by decide), h5]
    have g3 : Lib.upd γ 6 W.heap.size 3 = γ 3 := by simp [Lib.upd]
    have g4 : Lib.upd γ 6 W.heap.size 4 = γ 4 := by simp [Lib.upd]
    have g6 : Lib.upd γ 6 W.heap.size 6 = W.heap.size := by simp [Lib.upd]
    refine ⟨h.below.alloc h.below.size _, fun _ => ?_, fun _ => ?_, fun _ => ⟨e3, e4⟩, fun _ => e5, fun _ => ?_⟩
    · rw [g3]; exact ⟨(h.row h3).1, (h.row h3).2.alloc _⟩
    · rw [g4]; exact ⟨(h.bus h4).1, bus_kp (F := fun _ => False) (h.bus h4).2 ((Kp.refl _ _).alloc _) (fun e => e) (fun _ _ e => e)⟩
    · rw [g3, g4, g6]; exact ⟨h.below.size, Blk.new W _ _⟩
  refine t_any (fun γ => .pointer (some ⟨γ 6, 0, none⟩)) (fun γ γ' hg => by simp only; rw [hg 6 (.inr (.one rfl (by decide)))]) (fun _ => rfl) (fun b γ W h hb hn hf => ⟨γ 7, W, ?_, ?_⟩) ?_
  · have g3 : Lib.upd γ 7 (γ 7) = γ := by funext j; unfold Lib.upd; split <;> simp_all
    rw [g3]; go_simp
  · have g3 : Lib.upd γ 7 (γ 7) = γ := by funext j; unfold Lib.upd; split <;> simp_all
    rw [g3]; exact h.up _ (by decide) (by decide) (by decide) (by decide)
  refine t_end ?_
  intro bq gq w1 hall hS
  simp only [Act.put, List.setIfInBounds_toArray, List.set_cons_zero, List.set_cons_succ]
  have t3 := hS.row (hall 3 (by decide))
  have t4 := hS.bus (hall 4 (by decide))
  have t6 := hS.top (hall 6 (by decide))
  generalize gq 3 = gr at t3 t6 ⊢
  generalize gq 4 = gb at t4 t6 ⊢
  generalize gq 6 = gw at t6 ⊢
  have HN := hid (show N2 w w1 k 0 gw gr gb (fun _ => 0) from ⟨t6.2, by rw [rcs_congr (ps' := fun _ => .pointer none) k (fun i _ => if_neg (Nat.not_lt_zero i)) (fun _ _ => rfl)]; exact t3.2, t4.2, fun i hi => absurd hi (Nat.not_lt_zero i), fun i _ hi => absurd hi (Nat.not_lt_zero i), hS.below, t6.1, t3.1⟩)
  have c0 := HN.out.top.cell 0
  simp only [List.getElem?_cons_zero] at c0
  clear t3 t4 t6 hS hall
  generalize (if n < 1 then (1 : Int) else n) = n1
  go_wp2_with fail
  clear c0
  go_loopw [17] (fun i wr => ∃ (j : Nat) (gs : Nat → Nat), j ≤ k ∧ i = .int .i64 j ∧ N2 w wr k j gw gr gb gs) (fun i _ => k - (intOf i).toNat)
  case atStart => exact ⟨0, _, Nat.zero_le _, rfl, HN.out⟩
  case round =>
    clear HN
    obtain ⟨j, gs, hj, rfl, HX⟩ := hrel
    have H6 := hid HX
    clear HX
    by_cases hlt : j < k
    · have u0 : ((j : Int) < k) = True := eq_true (by omega)
      have u1 : decide ((j : Int) < k) = true := decide_eq_true (by omega)
      have u2 : IntKind.i64.wrap ((j : Int) + 1) = ((j + 1 : Nat) : Int) := by have := H8.out; rw [IntKind.wrap_i64]; omega
      have u3 : (j < k) = True := eq_true hlt
      go_wp2_with fail
      refine region_text (by kernel_rfl) (by kernel_rfl) (N3 w wr k j gw gr gb gs) ⟨fun _ => H6.out.later (Below.refl _ _).drew, fun e => absurd e (by decide), fun _ => (Below.refl _ _).drew, fun e => absurd e (by decide), fun e => absurd e (by decide), H6.out.top.drew⟩ ?_
      refine t_pure (.pointer (some ⟨gw, 0, none⟩)) (fun _ => rfl) (fun b γ W h => h.up _ (by decide) (by decide)) (fun b γ W h _ => by go_simp) ?_
      refine t_pure (.pointer (some ⟨gw, 0, none⟩)) (fun _ => rfl) (fun b γ W h => h.up _ (by decide) (by decide)) (fun b γ W h _ => by go_simp) ?_
      refine t_pure (.pointer (some ⟨gw, 0, none⟩)) (fun _ => rfl) (fun b γ W h => h.up _ (by decide) (by decide)) (fun b γ W h _ => by go_simp) ?_
      refine t_pure (.slice (some ⟨gr, 0, none⟩) k k) (fun _ => rfl) (fun b γ W h => h.up _ (by decide) (by decide)) (fun b γ W h _ => by have c0 : W.cell? ⟨gw, 0, none⟩ = some (.slice (some ⟨gr, 0, none⟩) k k) := h.top.cell 0; go_simp) ?_
      refine t_pure (.int .i64 j) (fun _ => rfl) (fun b γ W h => h.up _ (by decide) (by decide)) (fun b γ W h _ => by go_simp) ?_
      refine t_callN (f := 20) (args := #[]) (fun n => .pointer (some ⟨n, 0, none⟩)) (fun _ => rfl) (fun b γ W h _ => by go_simp) (fun b γ W h hb hf => ?_) ?_
      · have h8 : b 8 = false := by
          cases h8 : b 8
          · rfl
          · rw [h.o8 h8] at hb; cases hb
        have e5 : Lib.up b 5 5 = true := up_at _ _
        have e8 : Lib.up b 5 8 = false := by rw [up_of_ne (by decide), h8]
        have hp := h.pre h8
        refine (nf_new hp.below).mono ?_
        rintro y w5 ⟨rfl, hn, hbl⟩
        have g5 : Lib.upd γ 5 W.heap.size 5 = W.heap.size := by simp [Lib.upd]
        refine ⟨W.heap.size, rfl, fun _ => hp.later hbl, fun _ _ => ?_, fun _ => (h.old h8).trans (hbl.mono (h.old h8).size), fun q => absurd (e8.symm.trans q) Bool.false_ne_true, fun q => absurd (e8.symm.trans q) Bool.false_ne_true, h.top.below hbl⟩
        rw [g5]
        exact ⟨hn, fun i hi e => by have := (hp.node i hi).nd.blk.lt; omega⟩
      refine t_pure (.pointer (some ⟨gr, j * 2, none⟩)) (fun _ => rfl) (fun b γ W h => h.up _ (by decide) (by decide)) (fun b γ W h _ => by go_simp) ?_
      refine t_pure (.pointer (some ⟨gr, j * 2, none⟩)) (fun _ => rfl) (fun b γ W h => h.up _ (by decide) (by decide)) (fun b γ W h _ => by go_simp) ?_
      refine t_store (fun _ => rfl) (fun b γ W h hb hn hf => ⟨W.setCell ⟨gr, j * 2, none⟩ (.pointer (some ⟨γ 5, 0, none⟩)), ?_, ?_⟩) ?_
      · have hp := h.pre hb
        have c0 : W.cell? ⟨gr, j * 2, none⟩ = some (.pointer none) := by
          rw [hp.row.cell, rcs_p _ _ j k hlt, if_neg (Nat.lt_irrefl j)]
        have f0 := hp.row.frozen (j * 2)
        go_simp
      · have hp := h.pre hb
        have h5 : b 5 = true := hn 5 (by decide)
        have e5 : Lib.up b 8 5 = true := by rw [up_of_ne (by decide), h5]
        have e8 : Lib.up b 8 8 = true := up_at _ _
        obtain ⟨m1, m2⟩ := h.made h5 hb
        exact ⟨fun q => absurd (e8.symm.trans q) Bool.noConfusion, fun _ q => absurd (e8.symm.trans q) Bool.noConfusion, fun q => absurd (e8.symm.trans q) Bool.noConfusion, fun _ => hp.put hlt m1 m2, fun _ => e5, (Below.heap_setCell W _ _ gw (hp.top.ne hp.row (by decide))).trans h.top⟩
      refine t_end ?_
      intro bq gq w2 hall hS
      simp only [Act.put, List.setIfInBounds_toArray, List.set_cons_zero, List.set_cons_succ]
      have hp := hS.post (hall 8 (by decide))
      generalize gq 5 = q5 at hp ⊢
      have HP := hid hp
      clear hp hS hall
      go_wp2_with fail
      exact ⟨⟨j + 1, _, by omega, rfl, HP.out⟩, by simp [intOf]; omega⟩
    · obtain rfl : j = k := by omega
      go_wp2_with fail
      go_ret
      exact ⟨_, _, _, _, rfl, H6.out⟩
end Go.Proofs.YtpkpnaedacefaaaGreat.WireW
