/- The walks of package mac: events; a frame begins. -/
import Derived.Test.YtpkpnaedacefaaaGreatMacB
import Derived.Test.YtpkpnaedacefaaaGreatCodeLaws
import Derived.Maps.AppendAt
import Derived.Test.YtpkpnaedacefaaaGreatCodeFacts
namespace Go.Proofs.YtpkpnaedacefaaaGreat.MacW
set_option linter.unusedVariables false
set_option linter.unusedSimpArgs false
open Go Go.RowKit Go.Proofs.YtpkpnaedacefaaaGreat.Lib Go.Proofs.YtpkpnaedacefaaaGreat.Bits Go.Proofs.YtpkpnaedacefaaaGreat.BitsW Go.Proofs.YtpkpnaedacefaaaGreat.StuffW Go.Proofs.YtpkpnaedacefaaaGreat.Frame Go.Proofs.YtpkpnaedacefaaaGreat.FrameW Go.Proofs.YtpkpnaedacefaaaGreat.Code Go.Proofs.YtpkpnaedacefaaaGreat.CodeW Go.Proofs.YtpkpnaedacefaaaGreat.Mac Go.Proofs.YtpkpnaedacefaaaGreat.PrintMore
attribute [local go_sem] max2_int min2_int max_two min_two
/-- A slice of events of the call's own. -/
def Evs (W : World) (base : Nat) (v : Value) (L : List Ev) : Prop := W.ownsRow base 60 6 v L.length (L.flatMap ec)
theorem ec_length (x : Ev) : (ec x).length = 6 := rfl
theorem ecs_length (L : List Ev) : (L.flatMap ec).length = L.length * 6 := by
  induction L with
  | nil => rfl
  | cons x l ih => rw [List.flatMap_cons, List.length_append, ih, ec_length, List.length_cons]; omega
theorem evs_nil (W : World) (base : Nat) : Evs W base (.slice none 0 0) [] := World.ownsRow_nil W base 60 6
theorem evs_blk {W : World} {base g : Nat} {L : List Ev} {cs : List Value} (h : Blk W g 60 cs) (hc : cs = L.flatMap ec) (hb : base ≤ g) (hn : L.length ≤ 10) : Evs W base (.slice (some ⟨g, 0, none⟩) L.length L.length) L := by
  subst hc
  refine ⟨ecs_length L, .inr ⟨g, L.length, (L.flatMap ec).toArray, rfl, hb, h, Nat.le_refl _, Nat.le_trans hn (by decide), ?_, ?_⟩⟩
  · rw [List.size_toArray, ecs_length]
  · rw [← ecs_length L]
    exact List.take_length
theorem code_f (f : Fm) : codeF f.e f.i f.r f.d = B f.code := by
  unfold codeF Fm.code Fm.ok
  split <;> rfl
theorem arb_f (f : Fm) : arbF f.e f.i f.r f.d = B (if f.ok then arbL f.e f.i.toNat f.r else []) := by
  unfold arbF Fm.ok
  split <;> rfl
/-- A bit goes into the node's reader. -/
theorem npush_calls (g : Nat) (m : M) (c : Bool) (W : World) (hb : Blk W g MT (mc m)) (hok : Rd.Ok m.r) (hl : m.r.b.length ≤ 128) (h5 : m.r.rn ≤ 5) (he : m.r.en ≤ 100000) :
    Calls Tryz.prog 54 #[.pointer (some ⟨g, 13, none⟩), .int .u8 ((sg c).toNat : Int)] W fun e w' => e = .returned (.int .i64 ((m.r.push c).2 : Int)) ∧ At W w' g { m with r := (m.r.push c).1 } := by
  refine (push_calls g 13 MT (mc m) m.r c W hb (mc_rd m hl) hok h5 he).mono ?_
  rintro e w' ⟨rfl, ⟨cs', k1, k2, k3⟩, hg⟩
  have := mc_post hl k2 k3
  subst this
  exact ⟨rfl, k1, hg⟩
theorem rd_zero_ok : Rd.Ok Rd.zero := ⟨by decide, by decide, by decide, by decide, by decide⟩
theorem at_keep {w W W' : World} {g : Nat} {m m' : M} (h : At w W g m) (hb : At W W' g m') : At w W' g m' := ⟨hb.blk, grown_trans h.grown hb.grown⟩
theorem arb_short (o : Bool) (e : Bool) (n : Nat) (r : Bool) : (if o then arbL e n r else []).length ≤ 10000 := by
  unfold arbL
  cases o <;> cases e <;> simp [ofN_length]
/-- The region in which a sender is laid down. -/
structure BegInv (w : World) (g : Nat) (m m' : M) (b : Nat → Bool) (_γ : Nat → Nat) (W : World) : Prop where
  node : At w W g (if b 16 then m' else m)
set_option maxRecDepth 100000 in
set_option maxHeartbeats 3200000 in
theorem begins_calls (g : Nat) (m : M) (s : Bool) (w : World) (hb : Blk w g MT (mc m)) (hl : m.r.b.length ≤ 128) (hf : m.f.wf) : Calls Tryz.prog 39 #[.pointer (some ⟨g, 0, none⟩), .bool s] w fun e w' =>
    ∃ v, e = .returned v ∧ At w w' g (m.begins s).1 ∧ Evs w' w.heap.size v (m.begins s).2 := by
  obtain ⟨c0, c1, c2, c3, c4, c5, c6, c7, c8, c9, c10, c11, c12⟩ := hd13 hb
  have f0 := hb.frozen 0
  have H0 := (here_refl hb).set 0 (.int .i64 1)
  have hlen : (mc m).length = 148 := mc_length hl
  have ht := blk_there H0.blk 13 135 (by rw [List.length_set, hlen]; omega)
  have hzl : (Tryz.zeroCells82).toList = rc Rd.zero := by rw [zero_cells]
  have hz135 : (Tryz.zeroCells82).toList.length = 135 := by rw [hzl]; rfl
  have HS := run_storeCells_cells (P := Tryz.prog) g 13 (Tryz.zeroCells82).toList 0 (w.setCell ⟨g, 0, none⟩ (.int .i64 1)) (fun j hj => by simpa using (ht j (by rw [hz135] at hj; exact hj)).1) (fun j hj => by simpa using (ht j (by rw [hz135] at hj; exact hj)).2)
    (fun v hv => (Array.all_eq_true_iff_forall_mem.1 (one_cells M.new)) v (by rw [hzl] at hv; simp only [mc, List.mem_toArray, List.mem_append]; exact .inr hv))
  simp only [Nat.add_zero] at HS
  have H1 := here_setL (Tryz.zeroCells82).toList 13 H0
  have e := setL_mid (Tryz.zeroCells82).toList ((hc m).set 0 (.int .i64 1)) (rc m.r) [] (by rw [hz135, rc_length hl])
  simp only [List.append_nil] at e
  rw [show (mc m).set 0 (.int .i64 1) = (hc m).set 0 (.int .i64 1) ++ rc m.r from rfl, show (13 : Nat) = ((hc m).set 0 (.int .i64 1)).length from rfl, e, hzl] at H1
  have H1 : At w ((w.setCell ⟨g, 0, none⟩ (.int .i64 1)).setCells g 13 (Tryz.zeroCells82).toList) g { m with st := 1, r := Rd.zero } := by rw [hzl]; exact H1
  generalize (w.setCell ⟨g, 0, none⟩ (.int .i64 1)).setCells g 13 (Tryz.zeroCells82).toList = w1 at HS H1
  have H1 := hid H1
  clear e H0 ht hzl hz135 hlen hb
  go_enter Tryz.func39, Tryz.ntmps39
  go_wp2_with fail
  refine (npush_calls g { m with st := 1, r := Rd.zero } false _ H1.out.blk rd_zero_ok (Nat.zero_le 128) (Nat.zero_le 5) (Nat.zero_le 100000)).mono ?_
  rintro y w2 ⟨rfl, h2⟩
  have H2 := hid (at_keep H1.out h2)
  clear H1 h2 HS c0 c1 c2 c3 c4 c5 c6 c7 c8 c9 c10 c11 c12 f0
  simp only at H2 ⊢
  generalize (Rd.zero.push false).2 = q
  obtain ⟨m2, hm2⟩ : ∃ m2, m2 = ({ m with st := 1, r := (Rd.zero.push false).1 } : M) := ⟨_, rfl⟩
  have e2 : (m.begins false) = (m2, [⟨6, Fm.zero, 0⟩]) := by rw [hm2]; rfl
  have e3 : (m.begins true) = ({ m2 with on := true, bits := m2.f.code, arb := m2.f.arb, pos := 1 }, [⟨6, Fm.zero, 0⟩]) := by rw [hm2]; rfl
  have hf2 : m2.f.wf := by rw [hm2]; exact hf
  rw [← hm2] at H2
  clear hm2 hf hl
  have HE := hid (fun W => encode_calls m2.f.e m2.f.i m2.f.r m2.f.d W hf2)
  have HA := hid (fun W => frame_arb m2.f.e m2.f.i m2.f.r m2.f.d W hf2)
  have HT := hid (fun W => stuff_calls (B (if m2.f.ok then arbL m2.f.e m2.f.i.toNat m2.f.r else [])) (by rw [B_size]; exact arb_short _ _ _ _) W)
  rw [arb_f] at HA
  rw [code_f] at HE
  rw [bitsOf_B] at HT
  have hR : m2.f.arb = (stuff (if m2.f.ok then arbL m2.f.e m2.f.i.toNat m2.f.r else [])).length := rfl
  clear hf2
  generalize (if m2.f.ok then arbL m2.f.e m2.f.i.toNat m2.f.r else []) = A at HA HT hR
  have HR := hid hR
  clear hR
  have E2 := hid e2
  have E3 := hid e3
  clear e2 e3
  cases s
  · clear E3 HE HA HT
    go_wp2_with fail
    go_ret
    rw [E2.out]
    refine ⟨_, rfl, ⟨H2.out.blk.alloc _, grown_alloc H2.out.grown _⟩, ?_⟩
    exact evs_blk (Blk.new _ [.int .i64 6, .bool false, .int .u32 0, .bool false, .string ⟨#[]⟩, .int .i64 0] _) rfl H2.out.grown.size (Nat.le_of_ble_eq_true rfl)
  · clear E2
    obtain ⟨m3, hm3⟩ : ∃ m3, m3 = ({ m2 with on := true, bits := m2.f.code, arb := m2.f.arb, pos := 1 } : M) := ⟨_, rfl⟩
    have hmf : m3.f = m2.f := by rw [hm3]
    have hw : ∀ W, At w W g m2 → At w ((((W.setCell ⟨g, 9, none⟩ (.bool true)).setCell ⟨g, 10, none⟩ (.string (B m2.f.code))).setCell ⟨g, 11, none⟩ (.int .i64 m2.f.arb)).setCell ⟨g, 12, none⟩ (.int .i64 1)) g m3 := by
      intro W h
      rw [hm3]
      exact (((h.set 9 (.bool true)).set 10 (.string (B m2.f.code))).set 11 (.int .i64 m2.f.arb)).set 12 (.int .i64 1)
    have e3 := E3.out
    rw [← hm3] at e3
    clear E3
    have E3 := hid e3
    clear hm3 e3
    have HW := hid hw
    clear hw
    have HF : ∀ b γ W, BegInv w g m2 m3 b γ W → W.cell? ⟨g, 5, none⟩ = some (.bool m2.f.e) ∧ W.cell? ⟨g, 6, none⟩ = some (.int .u32 m2.f.i) ∧ W.cell? ⟨g, 7, none⟩ = some (.bool m2.f.r) ∧ W.cell? ⟨g, 8, none⟩ = some (.string m2.f.d) := by
      intro b γ W h
      have hn := h.node
      cases hb : b 16
      · rw [hb] at hn
        exact ⟨(hd13 hn.blk).fe, (hd13 hn.blk).fi, (hd13 hn.blk).fr, (hd13 hn.blk).fd⟩
      · rw [hb] at hn
        rw [← hmf]
        exact ⟨(hd13 hn.blk).fe, (hd13 hn.blk).fi, (hd13 hn.blk).fr, (hd13 hn.blk).fd⟩
    have HF := hid HF
    clear hmf
    have HU : ∀ b γ W i, i ≠ 16 → BegInv w g m2 m3 b γ W → BegInv w g m2 m3 (up b i) γ W := fun b γ W i hi h => ⟨by rw [up_of_ne (fun e => hi e.symm)]; exact h.node⟩
    have HL : ∀ b γ W W' i, i ≠ 16 → BegInv w g m2 m3 b γ W → Below W.heap.size W W' → BegInv w g m2 m3 (up b i) γ W' := fun b γ W W' i hi h hb => ⟨by rw [up_of_ne (fun e => hi e.symm)]; exact h.node.later hb⟩
    have HU := hid HU
    have HL := hid HL
    go_wp2_with fail
    refine region_text (by kernel_rfl) (by kernel_rfl) (BegInv w g m2 m3) ⟨at_drew H2.out⟩ ?_
    refine t_pure (.pointer (some ⟨g, 0, none⟩)) (fun _ => rfl) (fun b γ W h => HU.out b γ W _ (by decide) h) (fun b γ W h _ => by go_simp) ?_
    refine t_pure (.pointer (some ⟨g, 0, none⟩)) (fun _ => rfl) (fun b γ W h => HU.out b γ W _ (by decide) h) (fun b γ W h _ => by go_simp) ?_
    refine t_pure (.pointer (some ⟨g, 0, none⟩)) (fun _ => rfl) (fun b γ W h => HU.out b γ W _ (by decide) h) (fun b γ W h _ => by go_simp) ?_
    refine t_pure (.pointer (some ⟨g, 5, none⟩)) (fun _ => rfl) (fun b γ W h => HU.out b γ W _ (by decide) h) (fun b γ W h _ => by go_simp) ?_
    refine t_pure (.agg #[.bool m2.f.e, .int .u32 m2.f.i, .bool m2.f.r, .string m2.f.d]) (fun _ => rfl) (fun b γ W h => HU.out b γ W _ (by decide) h) (fun b γ W h _ => by obtain ⟨q0, q1, q2, q3⟩ := HF.out b γ W h; go_simp) ?_
    refine t_call (.string (B m2.f.code)) (fun _ => rfl) (fun b γ W h _ => by go_simp) (fun b γ W h _ => (HE.out W).mono (by rintro x w' ⟨rfl, hb⟩; exact ⟨rfl, HL.out b γ W w' _ (by decide) h hb⟩)) ?_
    refine t_pure (.pointer (some ⟨g, 0, none⟩)) (fun _ => rfl) (fun b γ W h => HU.out b γ W _ (by decide) h) (fun b γ W h _ => by go_simp) ?_
    refine t_pure (.pointer (some ⟨g, 0, none⟩)) (fun _ => rfl) (fun b γ W h => HU.out b γ W _ (by decide) h) (fun b γ W h _ => by go_simp) ?_
    refine t_pure (.pointer (some ⟨g, 5, none⟩)) (fun _ => rfl) (fun b γ W h => HU.out b γ W _ (by decide) h) (fun b γ W h _ => by go_simp) ?_
    refine t_pure (.agg #[.bool m2.f.e, .int .u32 m2.f.i, .bool m2.f.r, .string m2.f.d]) (fun _ => rfl) (fun b γ W h => HU.out b γ W _ (by decide) h) (fun b γ W h _ => by obtain ⟨q0, q1, q2, q3⟩ := HF.out b γ W h; go_simp) ?_
    refine t_call (.string (B A)) (fun _ => rfl) (fun b γ W h _ => by go_simp) (fun b γ W h _ => (HA.out W).mono (by rintro x w' ⟨rfl, hb⟩; exact ⟨rfl, HL.out b γ W w' _ (by decide) h hb⟩)) ?_
    refine t_call (.string (B (stuff A))) (fun _ => rfl) (fun b γ W h _ => by go_simp) (fun b γ W h _ => (HT.out W).mono (by rintro x w' ⟨rfl, hb⟩; exact ⟨rfl, HL.out b γ W w' _ (by decide) h hb⟩)) ?_
    refine t_pure (.int .i64 m2.f.arb) (fun _ => rfl) (fun b γ W h => HU.out b γ W _ (by decide) h) (fun b γ W h _ => by have q := B_size (stuff A); rw [← HR.out] at q; go_simp) ?_
    refine t_pure (.agg #[.bool true, .string (B m2.f.code), .int .i64 m2.f.arb, .int .i64 1]) (fun _ => rfl) (fun b γ W h => HU.out b γ W _ (by decide) h) (fun b γ W h _ => by go_simp) ?_
    refine t_pure (.pointer (some ⟨g, 0, none⟩)) (fun _ => rfl) (fun b γ W h => HU.out b γ W _ (by decide) h) (fun b γ W h _ => by go_simp) ?_
    refine t_pure (.pointer (some ⟨g, 9, none⟩)) (fun _ => rfl) (fun b γ W h => HU.out b γ W _ (by decide) h) (fun b γ W h _ => by go_simp) ?_
    refine t_store (fun _ => rfl) (fun b γ W h hb hn hf => ?_) ?_
    · have hnode := h.node
      rw [hb] at hnode
      have q9 := (hd13 hnode.blk).on
      have q10 := (hd13 hnode.blk).bits
      have q11 := (hd13 hnode.blk).arb
      have q12 := (hd13 hnode.blk).pos
      have f9 := hnode.blk.frozen 9
      have f10 := hnode.blk.frozen 10
      have f11 := hnode.blk.frozen 11
      have f12 := hnode.blk.frozen 12
      refine ⟨(((W.setCell ⟨g, 9, none⟩ (.bool true)).setCell ⟨g, 10, none⟩ (.string (B m2.f.code))).setCell ⟨g, 11, none⟩ (.int .i64 m2.f.arb)).setCell ⟨g, 12, none⟩ (.int .i64 1), by go_simp, ⟨?_⟩⟩
      rw [up_at]
      exact HW.out W hnode
    refine t_end ?_
    intro bq gq w3 hall hS
    have hn := hS.node
    rw [hall 16 (by decide), if_pos rfl] at hn
    have HN := hid hn
    clear hn hS hall HU HL HF HW HE HA HT
    simp only [Act.put, List.setIfInBounds_toArray, List.set_cons_zero, List.set_cons_succ]
    go_wp2_with fail
    go_ret
    rw [E3.out]
    refine ⟨_, rfl, ⟨HN.out.blk.alloc _, grown_alloc HN.out.grown _⟩, ?_⟩
    exact evs_blk (Blk.new _ [.int .i64 6, .bool false, .int .u32 0, .bool false, .string ⟨#[]⟩, .int .i64 0] _) rfl HN.out.grown.size (Nat.le_of_ble_eq_true rfl)
end Go.Proofs.YtpkpnaedacefaaaGreat.MacW


/- The walks of package mac: errors on the wire; a bit of another one's frame. -/
namespace Go.Proofs.YtpkpnaedacefaaaGreat.MacW
set_option linter.unusedVariables false
set_option linter.unusedSimpArgs false
open Go Go.RowKit Go.Proofs.YtpkpnaedacefaaaGreat.Lib Go.Proofs.YtpkpnaedacefaaaGreat.Bits Go.Proofs.YtpkpnaedacefaaaGreat.BitsW Go.Proofs.YtpkpnaedacefaaaGreat.StuffW Go.Proofs.YtpkpnaedacefaaaGreat.Frame Go.Proofs.YtpkpnaedacefaaaGreat.FrameW Go.Proofs.YtpkpnaedacefaaaGreat.Code Go.Proofs.YtpkpnaedacefaaaGreat.CodeW Go.Proofs.YtpkpnaedacefaaaGreat.Mac Go.Proofs.YtpkpnaedacefaaaGreat.PrintMore
attribute [local go_sem] max2_int min2_int max_two min_two
def ev (x : Ev) : Value := .agg #[.int .i64 x.kind, .bool x.f.e, .int .u32 x.f.i, .bool x.f.r, .string x.f.d, .int .i64 x.err]
theorem box6 {W : World} {p : Nat} {x : Ev} (h : Blk W p 60 (ec x)) : W.cell? ⟨p, 0, none⟩ = some (.int .i64 x.kind) ∧ W.cell? ⟨p, 1, none⟩ = some (.bool x.f.e) ∧ W.cell? ⟨p, 2, none⟩ = some (.int .u32 x.f.i) ∧ W.cell? ⟨p, 3, none⟩ = some (.bool x.f.r) ∧
    W.cell? ⟨p, 4, none⟩ = some (.string x.f.d) ∧ W.cell? ⟨p, 5, none⟩ = some (.int .i64 x.err) := ⟨h.cell 0, h.cell 1, h.cell 2, h.cell 3, h.cell 4, h.cell 5⟩
theorem evs_in {W : World} {b b' : Nat} {v : Value} {L : List Ev} (h : Evs W b v L) (hb : b' ≤ b) : Evs W b' v L := by
  refine ⟨h.1, ?_⟩
  rcases h.2 with hn | ⟨g, cap, cur, h1, h2, rest⟩
  · exact .inl hn
  · exact .inr ⟨g, cap, cur, h1, Nat.le_trans hb h2, rest⟩
theorem evs_new {W : World} {base n : Nat} {L : List Ev} {cs : List Value} (hn : W.heap.size = n) (hc : cs = L.flatMap ec) (hb : base ≤ n) (h10 : L.length ≤ 10) : Evs (W.alloc (.cells cs.toArray 60)) base (.slice (some ⟨n, 0, none⟩) L.length L.length) L := by
  subst hn
  exact evs_blk (Blk.new W cs 60) hc hb h10
set_option maxRecDepth 100000 in
set_option maxHeartbeats 3200000 in
theorem flags_calls (g : Nat) (m : M) (x : Ev) (w : World) (hb : Blk w g MT (mc m)) : Calls Tryz.prog 62 #[.pointer (some ⟨g, 0, none⟩), ev x] w fun e w' =>
    ∃ v, e = .returned v ∧ At w w' g (m.flags x).1 ∧ Evs w' w.heap.size v (m.flags x).2 := by
  have hA := hb.alloc (.cells #[.int .i64 x.kind, .bool x.f.e, .int .u32 x.f.i, .bool x.f.r, .string x.f.d, .int .i64 x.err] 60)
  obtain ⟨_, _, c2, c3, _, _, _, _, _, _, _, _, _⟩ := hd13 hA
  have hF : Blk (w.alloc (.cells #[.int .i64 x.kind, .bool x.f.e, .int .u32 x.f.i, .bool x.f.r, .string x.f.d, .int .i64 x.err] 60)) w.heap.size 60 (ec x) := Blk.new w (ec x) 60
  have H0 := hid (show At w _ g m from ⟨hA, grown_alloc (grown_refl w (some g)) _⟩)
  have HF := hid hF
  have HI := hid (fun W => isOff_calls m.sent m.got W)
  obtain ⟨X, hX⟩ : ∃ X, X = m.flags x := ⟨_, rfl⟩
  rw [← hX]
  unfold M.flags at hX
  have hne : w.heap.size ≠ g := hF.ne hA (by decide)
  have HX := hid hX
  clear hA hF hb hX
  unfold ev
  go_enter Tryz.func62, Tryz.ntmps62
  go_wp2_with fail
  refine (HI.out _).mono ?_
  rintro y w1 ⟨rfl, hbl⟩
  have h1 := H0.out.later hbl
  have hf1 := HF.out.below hbl
  have HS := hid h1.grown.size
  clear c2 c3 H0 HF HI hbl
  obtain ⟨c0, c1, _, _, _, _, _, _, _, _, _, _, _⟩ := hd13 h1.blk
  have f0 := h1.blk.frozen 0
  have f1 := h1.blk.frozen 1
  cases ho : isOff m.sent
  · have hX := HX.out
    rw [if_neg (by simp [ho])] at hX
    have HX := hid hX
    have h2 := (h1.set 0 (.int .i64 3)).set 1 (.int .i64 6)
    obtain ⟨q0, q1, q2, q3, q4, q5⟩ := box6 ((hf1.far (p := ⟨g, 0, none⟩) hne (.int .i64 3)).far (p := ⟨g, 1, none⟩) hne (.int .i64 6))
    have H2 := hid h2
    clear h1 hf1 h2 hX hne
    go_wp2_with fail
    go_ret
    rw [HX.out]
    refine ⟨_, rfl, ⟨H2.out.blk.alloc _, grown_alloc H2.out.grown _⟩, ?_⟩
    exact evs_new (L := [x]) (cs := ec x) (by simp) (List.append_nil _).symm HS.out (Nat.le_of_ble_eq_true rfl)
  · have hX := HX.out
    rw [if_pos ho] at hX
    have HX := hid hX
    have h2 := h1.set 0 (.int .i64 7)
    obtain ⟨q0, q1, q2, q3, q4, q5⟩ := box6 (hf1.far (p := ⟨g, 0, none⟩) hne (.int .i64 7))
    have H2 := hid h2
    clear h1 hf1 h2 hX hne
    go_wp2_with fail
    go_ret
    rw [HX.out]
    refine ⟨_, rfl, ⟨H2.out.blk.alloc _, grown_alloc H2.out.grown _⟩, ?_⟩
    exact evs_new (L := [x, ⟨7, Fm.zero, 0⟩]) (cs := ec x ++ ec ⟨7, Fm.zero, 0⟩) (by simp) rfl HS.out (Nat.le_of_ble_eq_true rfl)
set_option maxRecDepth 100000 in
set_option maxHeartbeats 3200000 in
theorem fails_calls (g : Nat) (m : M) (f : Fm) (x : Int) (w : World) (hb : Blk w g MT (mc m)) : Calls Tryz.prog 59 #[.pointer (some ⟨g, 0, none⟩), fv f, .int .i64 x] w fun e w' =>
    ∃ v, e = .returned v ∧ At w w' g (m.fails f x).1 ∧ Evs w' w.heap.size v (m.fails f x).2 := by
  have hA := hb.alloc (.cells #[.bool f.e, .int .u32 f.i, .bool f.r, .string f.d] 35)
  have hF : Blk (w.alloc (.cells #[.bool f.e, .int .u32 f.i, .bool f.r, .string f.d] 35)) w.heap.size 35 (fc f) := Blk.new w (fc f) 35
  have H0 := hid (show At w _ g m from ⟨hA, grown_alloc (grown_refl w (some g)) _⟩)
  have HF := hid hF
  have hne : w.heap.size ≠ g := hF.ne hA (by decide)
  have HD := hid (fun W h => done_calls g m W h)
  have HI := hid (fun W => sent_calls m.sent m.got false W)
  have HL := hid (fun W h => flags_calls g { m.done with sent := if cOk m.sent m.got then sentC m.sent false else m.sent } ⟨4, f, x⟩ W h)
  have hX : m.fails f x = M.flags { m.done with sent := if cOk m.sent m.got then sentC m.sent false else m.sent } ⟨4, f, x⟩ := rfl
  generalize m.fails f x = X at hX
  generalize hM : ({ m.done with sent := if cOk m.sent m.got then sentC m.sent false else m.sent } : M) = m4 at hX HL
  have HM := hid hM
  have HX := hid hX
  clear hX
  clear hA hF hb hM
  unfold fv
  go_enter Tryz.func59, Tryz.ntmps59
  go_wp2_with fail
  refine (HD.out _ H0.out.blk).mono ?_
  rintro y w1 ⟨rfl, hw1⟩
  have hf1 := HF.out.grown hw1.grown (by simpa using hne)
  have h1 := at_keep H0.out hw1
  have HF := hid hf1
  have H1 := hid h1
  obtain ⟨c0, c1, c2, c3, _, _, _, _, _, _, _, _, _⟩ := hd13 h1.blk
  have c2 : w1.cell? ⟨g, 2, none⟩ = some (.int .i64 m.sent) := c2
  have c3 : w1.cell? ⟨g, 3, none⟩ = some (.int .i64 m.got) := c3
  clear H0 HD hw1 hf1 h1 c0 c1
  go_wp2_with fail
  refine (HI.out _).mono ?_
  rintro y w2 ⟨rfl, hbl⟩
  have h2 := H1.out.later hbl
  have hf2 := HF.out.below hbl
  clear c2 c3 H1 HF HI hbl
  obtain ⟨_, _, c2, c3, _, _, _, _, _, _, _, _, _⟩ := hd13 h2.blk
  have f2 := h2.blk.frozen 2
  have f3 := h2.blk.frozen 3
  have h3 := (h2.set 2 (.int .i64 (sentV m.sent m.got false))).set 3 (.int .i64 m.got)
  have h4 : At w ((w2.setCell ⟨g, 2, none⟩ (.int .i64 (sentV m.sent m.got false))).setCell ⟨g, 3, none⟩ (.int .i64 m.got)) g m4 := by rw [← HM.out]; exact h3
  have H4 := hid h4
  have hf4 := (hf2.far (p := ⟨g, 2, none⟩) hne (.int .i64 (sentV m.sent m.got false))).far (p := ⟨g, 3, none⟩) hne (.int .i64 m.got)
  have q0 := hf4.cell 0
  have q1 := hf4.cell 1
  have q2 := hf4.cell 2
  have q3 := hf4.cell 3
  simp only [fc, List.getElem?_cons_zero, List.getElem?_cons_succ] at q0 q1 q2 q3
  clear h2 hf2 h3 h4 hf4 hne
  go_wp2_with fail
  refine (HL.out _ H4.out.blk).mono ?_
  rintro y w5 ⟨v, rfl, hw5, hev⟩
  have H5 := hid (at_keep H4.out hw5)
  have HE := hid (evs_in hev H4.out.grown.size)
  clear H4 hw5 hev HM q0 q1 q2 q3 c2 c3 f2 f3
  go_wp2_with fail
  go_ret
  rw [HX.out]
  exact ⟨_, rfl, H5.out, HE.out⟩
end Go.Proofs.YtpkpnaedacefaaaGreat.MacW


/- The walks of package mac: a bit of another one's frame. -/
namespace Go.Proofs.YtpkpnaedacefaaaGreat.MacW
set_option linter.unusedVariables false
set_option linter.unusedSimpArgs false
open Go Go.RowKit Go.Proofs.YtpkpnaedacefaaaGreat.Lib Go.Proofs.YtpkpnaedacefaaaGreat.Bits Go.Proofs.YtpkpnaedacefaaaGreat.BitsW Go.Proofs.YtpkpnaedacefaaaGreat.StuffW Go.Proofs.YtpkpnaedacefaaaGreat.Frame Go.Proofs.YtpkpnaedacefaaaGreat.FrameW Go.Proofs.YtpkpnaedacefaaaGreat.Code Go.Proofs.YtpkpnaedacefaaaGreat.CodeW Go.Proofs.YtpkpnaedacefaaaGreat.Mac Go.Proofs.YtpkpnaedacefaaaGreat.PrintMore
attribute [local go_sem] max2_int min2_int max_two min_two
theorem inv_ok {r : Rd} (h : r.Inv) (he : r.en ≤ 1000000) : Rd.Ok r := ⟨by have := h.rn; omega, by have := h.len; omega, by have := h.need; omega, h.sum, he⟩
set_option maxRecDepth 100000 in
set_option maxHeartbeats 3200000 in
theorem hears_calls (g : Nat) (m : M) (c : Bool) (w : World) (hb : Blk w g MT (mc m)) (hi : m.r.Inv) (he : m.r.en ≤ 1000) : Calls Tryz.prog 41 #[.pointer (some ⟨g, 0, none⟩), .int .u8 ((sg c).toNat : Int)] w fun e w' =>
    ∃ v, e = .returned v ∧ At w w' g (m.hears c).1 ∧ Evs w' w.heap.size v (m.hears c).2 := by
  have hl : m.r.b.length ≤ 128 := by have := hi.len; omega
  have HP := hid (npush_calls g m c w hb (inv_ok hi (by omega)) hl hi.rn (by omega))
  have HI := hid (fun W b => got_calls m.sent m.got b W)
  have hX : m.hears c = if (m.r.push c).2 ≠ 0 then M.flags { m with r := (m.r.push c).1, got := if cOk m.sent m.got then gotC m.got false else m.got } ⟨5, Fm.zero, (m.r.push c).2⟩
      else if (m.r.push c).1.en - 3 < 6 then ({ m with r := (m.r.push c).1 }, [])
      else ({ m with r := (m.r.push c).1, st := 2, got := if cOk m.sent m.got then gotC m.got true else m.got }, [⟨2, Fm.of (parseL (m.r.push c).1.b).1, 0⟩]) := rfl
  have hpi := hi.push c
  generalize m.hears c = X at hX
  generalize m.r.push c = z at hX HP hpi
  obtain ⟨r', q⟩ := z
  simp only at hX HP hpi
  have hs : m.sent = ({ m with r := r' } : M).sent := rfl
  have hg : m.got = ({ m with r := r' } : M).got := rfl
  obtain ⟨m1, hm1⟩ : ∃ m1, m1 = ({ m with r := r' } : M) := ⟨_, rfl⟩
  have e1 : ({ m with r := r', got := if cOk m.sent m.got then gotC m.got false else m.got } : M) = { m1 with got := gotV m.sent m.got false } := by rw [hm1]; rfl
  have e2 : ({ m with r := r', st := 2, got := if cOk m.sent m.got then gotC m.got true else m.got } : M) = { m1 with st := 2, got := gotV m.sent m.got true } := by rw [hm1]; rfl
  have er : m1.r = r' := by rw [hm1]
  rw [e1, e2] at hX
  rw [← hm1] at hX HP hs hg
  generalize m.sent = s0 at *
  generalize m.got = g0 at *
  have HS := hid hs
  have HG := hid hg
  clear hm1 e1 e2 hb hl hs hg
  by_cases h0 : q = 0
  · subst h0
    rw [if_neg (by simp)] at hX
    obtain ⟨hi', hen'⟩ := hpi rfl
    rw [← er] at hi' hen' hX
    have hl1 : m1.r.b.length ≤ 128 := by have := hi'.len; omega
    have HE := hid (fun (W : World) (h : Blk W g MT (mc m1)) => end_calls g 13 MT (mc m1) m1.r W h (mc_rd m1 hl1) (inv_ok hi' (by omega)))
    by_cases h6 : m1.r.en - 3 < 6
    · rw [if_pos h6] at hX
      have HX := hid hX
      have e6 : (((m1.r.en - 3 : Nat) : Int) < 6) = True := eq_true (by omega)
      have e6' : decide (((m1.r.en - 3 : Nat) : Int) < 6) = true := decide_eq_true (by omega)
      clear hX h6 hi' hen' hl1 hpi hi er HI
      generalize ((m1.r.en - 3 : Nat) : Int) = n at HE e6 e6'
      go_enter Tryz.func41, Tryz.ntmps41
      go_wp2_with fail
      refine HP.out.mono ?_
      rintro y w1 ⟨rfl, h1⟩
      have H1 := hid h1
      clear h1 HP
      go_wp2_with fail
      refine (HE.out _ H1.out.blk).mono ?_
      rintro y w2 ⟨rfl, rfl⟩
      go_wp2_with fail
      go_ret
      rw [HX.out]
      exact ⟨_, rfl, H1.out, evs_nil _ _⟩
    · rw [if_neg h6] at hX
      have HX := hid hX
      have e6 : (((m1.r.en - 3 : Nat) : Int) < 6) = False := eq_false (by omega)
      have e6' : decide (((m1.r.en - 3 : Nat) : Int) < 6) = false := decide_eq_false (by omega)
      have HF := hid (fun (m' : M) (W : World) (hr : m'.r = m1.r) (h : Blk W g MT (mc m')) => frame_calls g 13 MT (mc m') m'.r W h (mc_rd m' (by rw [hr]; exact hl1)) (by rw [hr]; exact inv_ok hi' (by omega)))
      clear hX h6 hi' hen' hl1 hpi hi er
      generalize ((m1.r.en - 3 : Nat) : Int) = n at HE e6 e6'
      go_enter Tryz.func41, Tryz.ntmps41
      go_wp2_with fail
      refine HP.out.mono ?_
      rintro y w1 ⟨rfl, h1⟩
      have H1 := hid h1
      clear h1 HP
      go_wp2_with fail
      refine (HE.out _ H1.out.blk).mono ?_
      rintro y w2 ⟨rfl, rfl⟩
      have d0 := (hd13 H1.out.blk).st
      have f0 := H1.out.blk.frozen 0
      have h2 := H1.out.set 0 (.int .i64 2)
      have c2 := (hd13 (m := { m1 with st := 2 }) h2.blk).sent
      have c3 := (hd13 (m := { m1 with st := 2 }) h2.blk).got
      simp only at c2 c3
      rw [← HS.out] at c2
      rw [← HG.out] at c3
      have H2 := hid (show At w _ g { m1 with st := 2 } from h2)
      clear h2 H1 HE
      go_wp2_with fail
      refine (HI.out _ true).mono ?_
      rintro y w3 ⟨rfl, hbl⟩
      have h3 := H2.out.later hbl
      clear c2 c3 f0 d0 H2 hbl
      have c2 := (hd13 h3.blk).sent
      have c3 := (hd13 h3.blk).got
      have f2 := h3.blk.frozen 2
      have f3 := h3.blk.frozen 3
      have h4 := (h3.set 2 (.int .i64 s0)).set 3 (.int .i64 (gotV s0 g0 true))
      have h5 : At w ((w3.setCell ⟨g, 2, none⟩ (.int .i64 s0)).setCell ⟨g, 3, none⟩ (.int .i64 (gotV s0 g0 true))) g { m1 with st := 2, got := gotV s0 g0 true } := by
        rw [HS.out] at h4 ⊢
        exact h4
      have H5 := hid h5
      clear h3 h4 h5
      go_wp2_with fail
      refine (HF.out { m1 with st := 2, got := gotV s0 g0 true } _ rfl H5.out.blk).mono ?_
      rintro y w6 ⟨rfl, hbl⟩
      have H6 := hid (H5.out.later hbl)
      clear H5 HF hbl c2 c3 f2 f3
      simp only at HX H6 ⊢
      generalize (parseL m1.r.b).1 = p at HX
      obtain ⟨p1, p2, p3, p4⟩ := p
      simp only at HX ⊢
      go_wp2_with fail
      go_ret
      rw [HX.out]
      refine ⟨_, rfl, ⟨H6.out.blk.alloc _, grown_alloc H6.out.grown _⟩, ?_⟩
      exact evs_new (L := [⟨2, Fm.of (p1, p2, p3, p4), 0⟩]) (cs := ec ⟨2, Fm.of (p1, p2, p3, p4), 0⟩) rfl (List.append_nil _).symm H6.out.grown.size (Nat.le_of_ble_eq_true rfl)
  · rw [if_pos h0] at hX
    have HX := hid hX
    have e0 : ((q : Int) = 0) = False := eq_false (by omega)
    have e0' : ((q : Int) == 0) = false := by simp; omega
    have HL := hid (fun W h => flags_calls g { m1 with got := gotV s0 g0 false } ⟨5, Fm.zero, q⟩ W h)
    clear hX hpi hi er h0
    go_enter Tryz.func41, Tryz.ntmps41
    go_wp2_with fail
    refine HP.out.mono ?_
    rintro y w1 ⟨rfl, h1⟩
    have H1 := hid h1
    have c2 := (hd13 h1.blk).sent
    have c3 := (hd13 h1.blk).got
    rw [← HS.out] at c2
    rw [← HG.out] at c3
    clear h1 HP
    go_wp2_with fail
    refine (HI.out _ false).mono ?_
    rintro y w3 ⟨rfl, hbl⟩
    have h3 := H1.out.later hbl
    clear c2 c3 H1 hbl
    have c2 := (hd13 h3.blk).sent
    have c3 := (hd13 h3.blk).got
    have f2 := h3.blk.frozen 2
    have f3 := h3.blk.frozen 3
    have h4 := (h3.set 2 (.int .i64 s0)).set 3 (.int .i64 (gotV s0 g0 false))
    have h5 : At w ((w3.setCell ⟨g, 2, none⟩ (.int .i64 s0)).setCell ⟨g, 3, none⟩ (.int .i64 (gotV s0 g0 false))) g { m1 with got := gotV s0 g0 false } := by
      rw [HS.out] at h4 ⊢
      exact h4
    have H5 := hid h5
    clear h3 h4 h5
    go_wp2_with fail
    refine (HL.out _ H5.out.blk).mono ?_
    rintro y w5 ⟨v, rfl, hw5, hev⟩
    have H6 := hid (at_keep H5.out hw5)
    have HE := hid (evs_in hev H5.out.grown.size)
    clear H5 hw5 hev c2 c3 f2 f3
    go_wp2_with fail
    go_ret
    rw [HX.out]
    exact ⟨_, rfl, H6.out, HE.out⟩
end Go.Proofs.YtpkpnaedacefaaaGreat.MacW


/- Events that are appended. -/
namespace Go.Proofs.YtpkpnaedacefaaaGreat.MacW
set_option linter.unusedVariables false
set_option linter.unusedSimpArgs false
open Go Go.RowKit Go.Proofs.YtpkpnaedacefaaaGreat.Lib Go.Proofs.YtpkpnaedacefaaaGreat.Bits Go.Proofs.YtpkpnaedacefaaaGreat.BitsW Go.Proofs.YtpkpnaedacefaaaGreat.StuffW Go.Proofs.YtpkpnaedacefaaaGreat.Frame Go.Proofs.YtpkpnaedacefaaaGreat.FrameW Go.Proofs.YtpkpnaedacefaaaGreat.Code Go.Proofs.YtpkpnaedacefaaaGreat.CodeW Go.Proofs.YtpkpnaedacefaaaGreat.Mac Go.Proofs.YtpkpnaedacefaaaGreat.PrintMore
/-- A number as two. -/
def dec2 : Nat → Nat × Nat
  | 0 => (0, 0)
  | n + 1 => match dec2 n with
    | (a, 0) => (0, a + 1)
    | (a, b + 1) => (a + 1, b)
theorem dec2_onto (s : Nat) : ∀ a b, a + b = s → ∃ n, dec2 n = (a, b) := by
  induction s with
  | zero =>
    intro a b h
    obtain ⟨rfl, rfl⟩ : a = 0 ∧ b = 0 := by omega
    exact ⟨0, rfl⟩
  | succ s ih =>
    intro a
    induction a with
    | zero =>
      intro b h
      obtain ⟨n, hn⟩ := ih s 0 (by omega)
      refine ⟨n + 1, ?_⟩
      have : b = s + 1 := by omega
      subst this
      simp only [dec2, hn]
    | succ a iha =>
      intro b h
      obtain ⟨n, hn⟩ := iha (b + 1) (by omega)
      exact ⟨n + 1, by simp only [dec2, hn]⟩
/-- A slice of a block's head, by one number. -/
def decV (n : Nat) : Nat → Value
  | 0 => .slice none 0 0
  | k + 1 => .slice (some ⟨(dec2 k).1, 0, none⟩) n (dec2 k).2
theorem decV_onto {W : World} {base n : Nat} {e : TypeId} {size : Nat} {v : Value} {xs : List Value} (h : W.ownsRow base e size v n xs) : ∃ k, v = decV n k := by
  rcases h.2 with ⟨h1, _⟩ | ⟨g, cap, cur, h1, _⟩
  · exact ⟨0, h1⟩
  · obtain ⟨k, hk⟩ := dec2_onto (g + cap) g cap rfl
    exact ⟨k + 1, by simp only [decV, hk]; exact h1⟩
section
variable {P : Program} {ops : Array Oper} {S : (Nat → Bool) → (Nat → Nat) → World → Prop} {Fin : ((Nat → Nat) → Act) → Prop} {i : Nat} {o : Oper} {rest : List Oper} {a : (Nat → Nat) → Act}
/-- A call whose value hangs on one number that it finds. -/
theorem t_callN {f : FuncId} {args : Array Value} (v : Nat → Value) (hw : ∀ g, Region.wanted o (yielded ops (a g).tmps) = true)
    (he : ∀ b g w, S b g w → (∀ j ∈ needsOf o, b j = true) → (execOp (a g).eval o).run P w = .ok (.enter f args) w)
    (hc : ∀ b g w, S b g w → b i = false → (∀ j p, ops[j]? = some p → i ∈ needsOf p → b j = false) → Calls P f args w fun e w' => ∃ n, e = .returned (v n) ∧ S (up b i) (upd g i n) w')
    (hr : TextRun P ops S Fin (i + 1) rest (fun g => (a g).put o.dst (v (g i)))) : TextRun P ops S Fin i (o :: rest) a :=
  ⟨fun g => v (g i), fun g g' hg => by simp only; rw [hg i (.inl rfl)], fun b g w hs hb hj hf => .inl ⟨hw g, by
    unfold Oper.wp
    rw [he b g w hs hj]
    refine Calls.mono (hc b g w hs hb hf) (fun e w' h => ?_)
    obtain ⟨n, rfl, h2⟩ := h
    exact ⟨n, by simp [upd], h2⟩⟩, hr⟩
/-- An operation whose value hangs on one number that it finds. -/
theorem t_runN (v : Nat → Value) (hw : ∀ g, Region.wanted o (yielded ops (a g).tmps) = true)
    (h : ∀ b g w, S b g w → b i = false → (∀ j ∈ needsOf o, b j = true) → ∃ n w', (execOp (a g).eval o).run P w = .ok (.value (v n)) w' ∧ S (up b i) (upd g i n) w')
    (hr : TextRun P ops S Fin (i + 1) rest (fun g => (a g).put o.dst (v (g i)))) : TextRun P ops S Fin i (o :: rest) a :=
  ⟨fun g => v (g i), fun g g' hg => by simp only; rw [hg i (.inl rfl)], fun b g w hs hb hj hf => .inl ⟨hw g, by
    obtain ⟨n, w', h1, h2⟩ := h b g w hs hb hj
    unfold Oper.wp
    rw [h1]
    exact ⟨n, by simp [upd], h2⟩⟩, hr⟩
end
theorem info_ev : (Tryz.prog.info? 60).map (fun i => (i.zero.map (fun z => z.cells.size), i.size, i.bytes)) = some (some 6, 6, 48) := by kernel_rfl
theorem one_ec (L : List Ev) : ∀ u ∈ L.flatMap ec, u.oneCell' = true := by
  intro u hu
  obtain ⟨x, _, hx⟩ := List.mem_flatMap.1 hu
  simp only [ec, List.mem_cons, List.not_mem_nil, or_false] at hx
  rcases hx with h | h | h | h | h | h <;> subst h <;> rfl
theorem run_app_evs {W : World} {base p : Nat} {x : Ev} {v2 : Value} {L2 : List Ev} (h1 : Evs W base (.slice (some ⟨p, 0, none⟩) 1 1) [x]) (h2 : Evs W base v2 L2) (hb : base ≤ W.heap.size) (hl : L2.length ≤ 10) :
    ∃ v' w', (Builtin.append_ #[43, 43] 43 #[.slice (some ⟨p, 0, none⟩) 1 1, v2]).run Tryz.prog W = .ok v' w' ∧ Evs w' base v' (x :: L2) ∧ W.grownBy w' (some p) := by
  obtain ⟨i, hi, hz, hs, hby⟩ : ∃ i, Tryz.prog.info? 60 = some i ∧ i.zero.map (fun z => z.cells.size) = some 6 ∧ i.size = 6 ∧ i.bytes = 48 := by
    have := info_ev
    cases hq : Tryz.prog.info? 60 with
    | none => rw [hq] at this; cases this
    | some i =>
      rw [hq] at this
      simp only [Option.map_some, Option.some.injEq, Prod.mk.injEq] at this
      exact ⟨i, rfl, this.1, this.2.1, this.2.2⟩
  obtain ⟨z, hz0, hz1⟩ : ∃ z, i.zero = some z ∧ z.cells.size = 6 := by
    cases hq : i.zero with
    | none => rw [hq] at hz; cases hz
    | some z => rw [hq] at hz; simp only [Option.map_some, Option.some.injEq] at hz; exact ⟨z, rfl, hz⟩
  have e1 : (x :: L2).length = 1 + L2.length := by rw [List.length_cons]; omega
  rcases h2.2 with ⟨rfl, h0⟩ | ⟨g, cap, cur, rfl, h3, h4, h5, h6, h7, h8⟩
  · have : L2 = [] := List.eq_nil_of_length_eq_zero h0
    subst this
    refine ⟨_, W, ?_, h1, grown_refl W _⟩
    simp [Builtin.append_, run_underlying Tryz.underlying43, sizeOf, typeInfo, hi, Builtin.lenOf, Builtin.firstCells, storeCells]
  · obtain ⟨v', w', r1, r2, r3, r4⟩ := run_append_own_at (P := Tryz.prog) W base 43 43 60 i z 6 48 Tryz.underlying43 hi hz0 hs hby hz1 (by decide) _ 1 _ h1 ⟨g, 0, none⟩ L2.length cap (L2.flatMap ec) h2.1
      (h2.cells (g := g) rfl) (one_ec L2) (by unfold maxLen; omega) (by omega) hb
    refine ⟨v', w', r1, ?_, r3⟩
    unfold Evs
    rw [e1]
    exact r2
end Go.Proofs.YtpkpnaedacefaaaGreat.MacW
