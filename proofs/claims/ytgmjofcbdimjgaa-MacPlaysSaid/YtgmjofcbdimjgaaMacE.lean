/- The walks of package mac: events; a frame begins. -/
import Derived.Test.YtgmjofcbdimjgaaMacD
import Derived.Test.YtgmjofcbdimjgaaCodeLaws
import Derived.Maps.AppendAt
namespace Go.Proofs.Ytgmjofcbdimjgaa.MacW
set_option linter.unusedVariables false
set_option linter.unusedSimpArgs false
open Go Go.RowKit Go.Proofs.Ytgmjofcbdimjgaa.Lib Go.Proofs.Ytgmjofcbdimjgaa.Bits Go.Proofs.Ytgmjofcbdimjgaa.BitsW Go.Proofs.Ytgmjofcbdimjgaa.StuffW Go.Proofs.Ytgmjofcbdimjgaa.Frame Go.Proofs.Ytgmjofcbdimjgaa.FrameW Go.Proofs.Ytgmjofcbdimjgaa.Code Go.Proofs.Ytgmjofcbdimjgaa.CodeW Go.Proofs.Ytgmjofcbdimjgaa.Mac Go.Proofs.Ytgmjofcbdimjgaa.PrintMore
attribute [local go_sem] max2_int min2_int max_two min_two
/-- A slice of events of the call's own. -/
def Evs (W : World) (base : Nat) (v : Value) (L : List Ev) : Prop := W.ownsRow base 34 6 v L.length (L.flatMap ec)
theorem ec_length (x : Ev) : (ec x).length = 6 := rfl
theorem ecs_length (L : List Ev) : (L.flatMap ec).length = L.length * 6 := by
  induction L with
  | nil => rfl
  | cons x l ih => rw [List.flatMap_cons, List.length_append, ih, ec_length, List.length_cons]; omega
theorem evs_nil (W : World) (base : Nat) : Evs W base (.slice none 0 0) [] := World.ownsRow_nil W base 34 6
theorem evs_blk {W : World} {base g : Nat} {L : List Ev} {cs : List Value} (h : Blk W g 34 cs) (hc : cs = L.flatMap ec) (hb : base ≤ g) (hn : L.length ≤ 10) : Evs W base (.slice (some ⟨g, 0, none⟩) L.length L.length) L := by
  subst hc
  refine ⟨ecs_length L, .inr ⟨g, L.length, (L.flatMap ec).toArray, rfl, hb, h, Nat.le_refl _, Nat.le_trans hn (by decide), ?_, ?_⟩⟩
  · rw [List.size_toArray, ecs_length]
  · rw [← ecs_length L]
    exact List.take_length
theorem code_f (f : Fm) : codeF f.e f.i f.r f.d = B f.code := by
  unfold codeF Fm.code Fm.ok
  split <;> rfl
theorem arb_f (f : Fm) : arbF f.e f.i f.r f.d = B (if f.ok then arbL f.e f.i.toNat f.r else []) := by
  unfold arbF Fm.ok
  split <;> rfl
/-- A bit goes into the node's reader. -/
theorem npush_calls (g : Nat) (m : M) (c : Bool) (W : World) (hb : Blk W g MT (mc m)) (hok : Rd.Ok m.r) (hl : m.r.b.length ≤ 128) (h5 : m.r.rn ≤ 5) (he : m.r.en ≤ 100000) :
    Calls Try.prog 68 #[.pointer (some ⟨g, 13, none⟩), .int .u8 ((sg c).toNat : Int)] W fun e w' => e = .returned (.int .i64 ((m.r.push c).2 : Int)) ∧ At W w' g { m with r := (m.r.push c).1 } := by
  refine (push_calls g 13 MT (mc m) m.r c W hb (mc_rd m hl) hok h5 he).mono ?_
  rintro e w' ⟨rfl, ⟨cs', k1, k2, k3⟩, hg⟩
  have := mc_post hl k2 k3
  subst this
  exact ⟨rfl, k1, hg⟩
theorem rd_zero_ok : Rd.Ok Rd.zero := ⟨by decide, by decide, by decide, by decide, by decide⟩
theorem at_keep {w W W' : World} {g : Nat} {m m' : M} (h : At w W g m) (hb : At W W' g m') : At w W' g m' := ⟨hb.blk, grown_trans h.grown hb.grown⟩
theorem arb_short (o : Bool) (e : Bool) (n : Nat) (r : Bool) : (if o then arbL e n r else []).length ≤ 10000 := by
  unfold arbL
  cases o <;> cases e <;> simp [ofN_length]
/-- The region in which a sender is laid down. -/
structure BegInv (w : World) (g : Nat) (m m' : M) (b : Nat → Bool) (_γ : Nat → Nat) (W : World) : Prop where
  node : At w W g (if b 16 then m' else m)
set_option maxRecDepth 100000 in
set_option maxHeartbeats 3200000 in
theorem begins_calls (g : Nat) (m : M) (s : Bool) (w : World) (hb : Blk w g MT (mc m)) (hl : m.r.b.length ≤ 128) (hf : m.f.wf) : Calls Try.prog 40 #[.pointer (some ⟨g, 0, none⟩), .bool s] w fun e w' =>
    ∃ v, e = .returned v ∧ At w w' g (m.begins s).1 ∧ Evs w' w.heap.size v (m.begins s).2 := by
  obtain ⟨c0, c1, c2, c3, c4, c5, c6, c7, c8, c9, c10, c11, c12⟩ := hd13 hb
  have f0 := hb.frozen 0
  have H0 := (here_refl hb).set 0 (.int .i64 1)
  have hlen : (mc m).length = 148 := mc_length hl
  have ht := blk_there H0.blk 13 135 (by rw [List.length_set, hlen]; omega)
  have hzl : (Try.zeroCells70).toList = rc Rd.zero := by rw [zero_cells]
  have hz135 : (Try.zeroCells70).toList.length = 135 := by rw [hzl]; rfl
  have HS := run_storeCells_cells (P := Try.prog) g 13 (Try.zeroCells70).toList 0 (w.setCell ⟨g, 0, none⟩ (.int .i64 1)) (fun j hj => by simpa using (ht j (by rw [hz135] at hj; exact hj)).1) (fun j hj => by simpa using (ht j (by rw [hz135] at hj; exact hj)).2)
    (fun v hv => (Array.all_eq_true_iff_forall_mem.1 (one_cells M.new)) v (by rw [hzl] at hv; simp only [mc, List.mem_toArray, List.mem_append]; exact .inr hv))
  simp only [Nat.add_zero] at HS
  have H1 := here_setL (Try.zeroCells70).toList 13 H0
  have e := setL_mid (Try.zeroCells70).toList ((hc m).set 0 (.int .i64 1)) (rc m.r) [] (by rw [hz135, rc_length hl])
  simp only [List.append_nil] at e
  rw [show (mc m).set 0 (.int .i64 1) = (hc m).set 0 (.int .i64 1) ++ rc m.r from rfl, show (13 : Nat) = ((hc m).set 0 (.int .i64 1)).length from rfl, e, hzl] at H1
  have H1 : At w ((w.setCell ⟨g, 0, none⟩ (.int .i64 1)).setCells g 13 (Try.zeroCells70).toList) g { m with st := 1, r := Rd.zero } := by rw [hzl]; exact H1
  generalize (w.setCell ⟨g, 0, none⟩ (.int .i64 1)).setCells g 13 (Try.zeroCells70).toList = w1 at HS H1
  have H1 := hid H1
  clear e H0 ht hzl hz135 hlen hb
  go_enter Try.func40, Try.ntmps40
  go_wp2_with fail
  refine (npush_calls g { m with st := 1, r := Rd.zero } false _ H1.out.blk rd_zero_ok (Nat.zero_le 128) (Nat.zero_le 5) (Nat.zero_le 100000)).mono ?_
  rintro y w2 ⟨rfl, h2⟩
  have H2 := hid (at_keep H1.out h2)
  clear H1 h2 HS c0 c1 c2 c3 c4 c5 c6 c7 c8 c9 c10 c11 c12 f0
  simp only at H2 ⊢
  generalize (Rd.zero.push false).2 = q
  obtain ⟨m2, hm2⟩ : ∃ m2, m2 = ({ m with st := 1, r := (Rd.zero.push false).1 } : M) := ⟨_, rfl⟩
  have e2 : (m.begins false) = (m2, [⟨6, Fm.zero, 0⟩]) := by rw [hm2]; rfl
  have e3 : (m.begins true) = ({ m2 with on := true, bits := m2.f.code, arb := m2.f.arb, pos := 1 }, [⟨6, Fm.zero, 0⟩]) := by rw [hm2]; rfl
  have hf2 : m2.f.wf := by rw [hm2]; exact hf
  rw [← hm2] at H2
  clear hm2 hf hl
  have HE := hid (fun W => encode_calls m2.f.e m2.f.i m2.f.r m2.f.d W hf2)
  have HA := hid (fun W => frame_arb m2.f.e m2.f.i m2.f.r m2.f.d W hf2)
  have HT := hid (fun W => stuff_calls (B (if m2.f.ok then arbL m2.f.e m2.f.i.toNat m2.f.r else [])) (by rw [B_size]; exact arb_short _ _ _ _) W)
  rw [arb_f] at HA
  rw [code_f] at HE
  rw [bitsOf_B] at HT
  have hR : m2.f.arb = (stuff (if m2.f.ok then arbL m2.f.e m2.f.i.toNat m2.f.r else [])).length := rfl
  clear hf2
  generalize (if m2.f.ok then arbL m2.f.e m2.f.i.toNat m2.f.r else []) = A at HA HT hR
  have HR := hid hR
  clear hR
  have E2 := hid e2
  have E3 := hid e3
  clear e2 e3
  cases s
  · clear E3 HE HA HT
    go_wp2_with fail
    go_ret
    rw [E2.out]
    refine ⟨_, rfl, ⟨H2.out.blk.alloc _, grown_alloc H2.out.grown _⟩, ?_⟩
    exact evs_blk (Blk.new _ [.int .i64 6, .bool false, .int .u32 0, .bool false, .string ⟨#[]⟩, .int .i64 0] _) rfl H2.out.grown.size (Nat.le_of_ble_eq_true rfl)
  · clear E2
    obtain ⟨m3, hm3⟩ : ∃ m3, m3 = ({ m2 with on := true, bits := m2.f.code, arb := m2.f.arb, pos := 1 } : M) := ⟨_, rfl⟩
    have hmf : m3.f = m2.f := by rw [hm3]
    have hw : ∀ W, At w W g m2 → At w ((((W.setCell ⟨g, 9, none⟩ (.bool true)).setCell ⟨g, 10, none⟩ (.string (B m2.f.code))).setCell ⟨g, 11, none⟩ (.int .i64 m2.f.arb)).setCell ⟨g, 12, none⟩ (.int .i64 1)) g m3 := by
      intro W h
      rw [hm3]
      exact (((h.set 9 (.bool true)).set 10 (.string (B m2.f.code))).set 11 (.int .i64 m2.f.arb)).set 12 (.int .i64 1)
    have e3 := E3.out
    rw [← hm3] at e3
    clear E3
    have E3 := hid e3
    clear hm3 e3
    have HW := hid hw
    clear hw
    have HF : ∀ b γ W, BegInv w g m2 m3 b γ W → W.cell? ⟨g, 5, none⟩ = some (.bool m2.f.e) ∧ W.cell? ⟨g, 6, none⟩ = some (.int .u32 m2.f.i) ∧ W.cell? ⟨g, 7, none⟩ = some (.bool m2.f.r) ∧ W.cell? ⟨g, 8, none⟩ = some (.string m2.f.d) := by
      intro b γ W h
      have hn := h.node
      cases hb : b 16
      · rw [hb] at hn
        exact ⟨(hd13 hn.blk).fe, (hd13 hn.blk).fi, (hd13 hn.blk).fr, (hd13 hn.blk).fd⟩
      · rw [hb] at hn
        rw [← hmf]
        exact ⟨(hd13 hn.blk).fe, (hd13 hn.blk).fi, (hd13 hn.blk).fr, (hd13 hn.blk).fd⟩
    have HF := hid HF
    clear hmf
    have HU : ∀ b γ W i, i ≠ 16 → BegInv w g m2 m3 b γ W → BegInv w g m2 m3 (up b i) γ W := fun b γ W i hi h => ⟨by rw [up_of_ne (fun e => hi e.symm)]; exact h.node⟩
    have HL : ∀ b γ W W' i, i ≠ 16 → BegInv w g m2 m3 b γ W → Below W.heap.size W W' → BegInv w g m2 m3 (up b i) γ W' := fun b γ W W' i hi h hb => ⟨by rw [up_of_ne (fun e => hi e.symm)]; exact h.node.later hb⟩
    have HU := hid HU
    have HL := hid HL
    go_wp2_with fail
    refine region_text (by kernel_rfl) (by kernel_rfl) (BegInv w g m2 m3) ⟨at_drew H2.out⟩ ?_
    refine t_pure (.pointer (some ⟨g, 0, none⟩)) (fun _ => rfl) (fun b γ W h => HU.out b γ W _ (by decide) h) (fun b γ W h _ => by go_simp) ?_
    refine t_pure (.pointer (some ⟨g, 0, none⟩)) (fun _ => rfl) (fun b γ W h => HU.out b γ W _ (by decide) h) (fun b γ W h _ => by go_simp) ?_
    refine t_pure (.pointer (some ⟨g, 0, none⟩)) (fun _ => rfl) (fun b γ W h => HU.out b γ W _ (by decide) h) (fun b γ W h _ => by go_simp) ?_
    refine t_pure (.pointer (some ⟨g, 5, none⟩)) (fun _ => rfl) (fun b γ W h => HU.out b γ W _ (by decide) h) (fun b γ W h _ => by go_simp) ?_
    refine t_pure (.agg #[.bool m2.f.e, .int .u32 m2.f.i, .bool m2.f.r, .string m2.f.d]) (fun _ => rfl) (fun b γ W h => HU.out b γ W _ (by decide) h) (fun b γ W h _ => by obtain ⟨q0, q1, q2, q3⟩ := HF.out b γ W h; go_simp) ?_
    refine t_call (.string (B m2.f.code)) (fun _ => rfl) (fun b γ W h _ => by go_simp) (fun b γ W h _ => (HE.out W).mono (by rintro x w' ⟨rfl, hb⟩; exact ⟨rfl, HL.out b γ W w' _ (by decide) h hb⟩)) ?_
    refine t_pure (.pointer (some ⟨g, 0, none⟩)) (fun _ => rfl) (fun b γ W h => HU.out b γ W _ (by decide) h) (fun b γ W h _ => by go_simp) ?_
    refine t_pure (.pointer (some ⟨g, 0, none⟩)) (fun _ => rfl) (fun b γ W h => HU.out b γ W _ (by decide) h) (fun b γ W h _ => by go_simp) ?_
    refine t_pure (.pointer (some ⟨g, 5, none⟩)) (fun _ => rfl) (fun b γ W h => HU.out b γ W _ (by decide) h) (fun b γ W h _ => by go_simp) ?_
    refine t_pure (.agg #[.bool m2.f.e, .int .u32 m2.f.i, .bool m2.f.r, .string m2.f.d]) (fun _ => rfl) (fun b γ W h => HU.out b γ W _ (by decide) h) (fun b γ W h _ => by obtain ⟨q0, q1, q2, q3⟩ := HF.out b γ W h; go_simp) ?_
    refine t_call (.string (B A)) (fun _ => rfl) (fun b γ W h _ => by go_simp) (fun b γ W h _ => (HA.out W).mono (by rintro x w' ⟨rfl, hb⟩; exact ⟨rfl, HL.out b γ W w' _ (by decide) h hb⟩)) ?_
    refine t_call (.string (B (stuff A))) (fun _ => rfl) (fun b γ W h _ => by go_simp) (fun b γ W h _ => (HT.out W).mono (by rintro x w' ⟨rfl, hb⟩; exact ⟨rfl, HL.out b γ W w' _ (by decide) h hb⟩)) ?_
    refine t_pure (.int .i64 m2.f.arb) (fun _ => rfl) (fun b γ W h => HU.out b γ W _ (by decide) h) (fun b γ W h _ => by have q := B_size (stuff A); rw [← HR.out] at q; go_simp) ?_
    refine t_pure (.agg #[.bool true, .string (B m2.f.code), .int .i64 m2.f.arb, .int .i64 1]) (fun _ => rfl) (fun b γ W h => HU.out b γ W _ (by decide) h) (fun b γ W h _ => by go_simp) ?_
    refine t_pure (.pointer (some ⟨g, 0, none⟩)) (fun _ => rfl) (fun b γ W h => HU.out b γ W _ (by decide) h) (fun b γ W h _ => by go_simp) ?_
    refine t_pure (.pointer (some ⟨g, 9, none⟩)) (fun _ => rfl) (fun b γ W h => HU.out b γ W _ (by decide) h) (fun b γ W h _ => by go_simp) ?_
    refine t_store (fun _ => rfl) (fun b γ W h hb hn hf => ?_) ?_
    · have hnode := h.node
      rw [hb] at hnode
      have q9 := (hd13 hnode.blk).on
      have q10 := (hd13 hnode.blk).bits
      have q11 := (hd13 hnode.blk).arb
      have q12 := (hd13 hnode.blk).pos
      have f9 := hnode.blk.frozen 9
      have f10 := hnode.blk.frozen 10
      have f11 := hnode.blk.frozen 11
      have f12 := hnode.blk.frozen 12
      refine ⟨(((W.setCell ⟨g, 9, none⟩ (.bool true)).setCell ⟨g, 10, none⟩ (.string (B m2.f.code))).setCell ⟨g, 11, none⟩ (.int .i64 m2.f.arb)).setCell ⟨g, 12, none⟩ (.int .i64 1), by go_simp, ⟨?_⟩⟩
      rw [up_at]
      exact HW.out W hnode
    refine t_end ?_
    intro bq gq w3 hall hS
    have hn := hS.node
    rw [hall 16 (by decide), if_pos rfl] at hn
    have HN := hid hn
    clear hn hS hall HU HL HF HW HE HA HT
    simp only [Act.put, List.setIfInBounds_toArray, List.set_cons_zero, List.set_cons_succ]
    go_wp2_with fail
    go_ret
    rw [E3.out]
    refine ⟨_, rfl, ⟨HN.out.blk.alloc _, grown_alloc HN.out.grown _⟩, ?_⟩
    exact evs_blk (Blk.new _ [.int .i64 6, .bool false, .int .u32 0, .bool false, .string ⟨#[]⟩, .int .i64 0] _) rfl HN.out.grown.size (Nat.le_of_ble_eq_true rfl)
end Go.Proofs.Ytgmjofcbdimjgaa.MacW
