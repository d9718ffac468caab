/- What layer 7's laws all ask first. -/
import Derived.Test.YtgmjofcbdimjgaaMacPure
namespace Go.Proofs.Ytgmjofcbdimjgaa.MacL
set_option linter.unusedVariables false
set_option linter.unusedSimpArgs false
open Go Go.RowKit Go.Proofs.Ytgmjofcbdimjgaa.Lib Go.Proofs.Ytgmjofcbdimjgaa.Bits Go.Proofs.Ytgmjofcbdimjgaa.BitsW Go.Proofs.Ytgmjofcbdimjgaa.StuffW Go.Proofs.Ytgmjofcbdimjgaa.Frame Go.Proofs.Ytgmjofcbdimjgaa.FrameW Go.Proofs.Ytgmjofcbdimjgaa.Code Go.Proofs.Ytgmjofcbdimjgaa.CodeW Go.Proofs.Ytgmjofcbdimjgaa.Mac Go.Proofs.Ytgmjofcbdimjgaa.MacW Go.Proofs.Ytgmjofcbdimjgaa.PrintMore
attribute [local go_sem] max2_int min2_int max_two min_two
attribute [local go_sem high] eqA24
def kF : Fm := ⟨false, 1365, false, ⟨#[]⟩⟩
theorem kf_fv : fv kF = .agg #[.bool false, .int .u32 1365, .bool false, .string ⟨#[]⟩] := rfl
theorem k_good : kF.Good := ⟨by decide +kernel, by unfold Fm.wf kF; decide⟩
/-- One event in memory, beside them. -/
structure E1 (W : World) (q : Nat) (x : Ev) : Prop where
  out : ∃ b cap, Evs W b (.slice (some ⟨q, 0, none⟩) 1 cap) [x]
theorem E1.later {W W' : World} {q : Nat} {x : Ev} (h : E1 W q x) (k : Below W.heap.size W W') : E1 W' q x := by
  obtain ⟨b, cap, h⟩ := h.out
  exact ⟨b, cap, evs_below h k⟩
theorem E1.drew {W : World} {q : Nat} {x : Ev} (h : E1 W q x) : E1 W.drew q x := h.later (Below.refl _ W).drew
theorem E1.get {W : World} {q : Nat} {x : Ev} (h : E1 W q x) : W.cell? ⟨q, 0, none⟩ = some (.int .i64 x.kind) ∧ W.cell? ⟨q, 1, none⟩ = some (.bool x.f.e) ∧ W.cell? ⟨q, 2, none⟩ = some (.int .u32 x.f.i) ∧
    W.cell? ⟨q, 3, none⟩ = some (.bool x.f.r) ∧ W.cell? ⟨q, 4, none⟩ = some (.string x.f.d) ∧ W.cell? ⟨q, 5, none⟩ = some (.int .i64 x.err) := by
  obtain ⟨b, cap, h⟩ := h.out
  obtain ⟨g, cap', e, _, h1⟩ := evs_one h
  injection e with e
  injection e with e
  injection e with e
  subst e
  exact h1
/-- The law's node and its frame. -/
structure KS (w W : World) (g p : Nat) (m : M) (f : Fm) : Prop where
  nd : Nd w W g m
  box : Blk W p 24 (fc f)
  ne : p ≠ g
  le : w.heap.size ≤ p
theorem KS.at {w W W' : World} {g p : Nat} {m m' : M} {f : Fm} (h : KS w W g p m f) (k : Nd w W' g m') (hg : W.grownBy W' (some g)) : KS w W' g p m' f := ⟨k, h.box.grown hg (by simpa using h.ne), h.ne, h.le⟩
theorem KS.later {w W W' : World} {g p : Nat} {m : M} {f : Fm} (h : KS w W g p m f) (k : Below W.heap.size W W') : KS w W' g p m f := ⟨h.nd.later k, h.box.below k, h.ne, h.le⟩
theorem KS.drew {w W : World} {g p : Nat} {m : M} {f : Fm} (h : KS w W g p m f) : KS w W.drew g p m f := ⟨h.nd.drew, h.box.drew, h.ne, h.le⟩
theorem KS.fr {w W : World} {g p : Nat} {m : M} {f : Fm} (h : KS w W g p m f) : W.cell? ⟨p, 0, none⟩ = some (.bool f.e) ∧ W.cell? ⟨p, 1, none⟩ = some (.int .u32 f.i) ∧ W.cell? ⟨p, 2, none⟩ = some (.bool f.r) ∧ W.cell? ⟨p, 3, none⟩ = some (.string f.d) :=
  ⟨h.box.cell 0, h.box.cell 1, h.box.cell 2, h.box.cell 3⟩
set_option maxRecDepth 100000 in
set_option maxHeartbeats 6400000 in
theorem known_calls (w : World) : Calls Try.prog 13 #[] w fun e w' => e = .returned (.bool true) ∧ Below w.heap.size w w' := by
  have HN := hid (nd_new (Below.refl w.heap.size w))
  go_enter Try.func13, Try.ntmps13
  go_wp2_with fail
  with_reducible refine HN.out.mono ?_
  rintro y w1 ⟨rfl, h1, _⟩
  have h1 : Nd w w1 w.heap.size (nw 0) := h1
  have hne := h1.blk.lt
  generalize hg : w.heap.size = g at h1 hne ⊢
  have H2 := hid (show KS w (w1.alloc (.cells #[.bool false, .int .u32 1365, .bool false, .string ⟨#[]⟩] 24)) g w1.heap.size (nw 0) kF from ⟨⟨h1.blk.alloc _, h1.below.alloc h1.below.size _, h1.le⟩, Blk.new w1 (fc kF) _, (by have := h1.blk.lt; omega), (by have := h1.below.size; omega)⟩)
  clear h1
  go_wp2_with fail
  with_reducible refine (nd_idle H2.out.nd).mono ?_
  rintro y w2 ⟨rfl, rfl⟩
  have e0 : ((nw 0).st == 0) = false := rfl
  rw [e0]
  clear e0
  go_wp2_with fail
  with_reducible refine (nd_drive H2.out.nd (nw_safe 0) (nw_rd 0)).mono ?_
  rintro y w3 ⟨rfl, h3, h3'⟩
  have H3 := hid (H2.out.at h3 h3')
  rw [nw_drive, show ((sg true).toNat : Int) = 49 from rfl]
  clear H2 h3 h3'
  generalize w1.heap.size = p at H3 ⊢
  go_wp2_with fail
  go_loopw [3] (fun i wr => ∃ j : Nat, j ≤ 3 ∧ i = .int .i64 j ∧ KS w wr g p (nw j) kF) (fun i _ => 3 - (intOf i).toNat)
  case atStart => exact ⟨0, Nat.zero_le _, rfl, H3.out⟩
  case round =>
    clear H3
    obtain ⟨j, hj, rfl, HB⟩ := hrel
    have H4 := hid HB
    clear HB
    by_cases hlt : j < 3
    · have u0 : ((j : Int) < 3) = True := eq_true (by omega)
      have u1 : decide ((j : Int) < 3) = true := decide_eq_true (by omega)
      have u2 : IntKind.i64.wrap ((j : Int) + 1) = ((j + 1 : Nat) : Int) := by rw [IntKind.wrap_i64]; omega
      have u3 : (j < 3) = True := eq_true hlt
      go_wp2_with fail
      with_reducible refine (nd_sample H4.out.nd (nw_safe j) true 49 rfl).mono ?_
      rintro y w4 ⟨v, rfl, h5, hev, hg⟩
      rw [nw_step] at h5 hev
      obtain ⟨a, cap, rfl, _⟩ := evs_slice hev
      have H5 := hid (H4.out.at h5 hg)
      clear H4 h5 hev hg
      go_wp2_with fail
      go_roundw
      case rel => exact ⟨j + 1, by omega, by go_num, H5.out⟩
      case measure => simp [intOf]; omega
    · obtain rfl : j = 3 := by omega
      have hA := idle_asked k_good
      have HA := hid hA
      clear hA hlt hj
      go_wp2_with fail
      with_reducible refine (nd_idle H4.out.nd).mono ?_
      rintro y w4 ⟨rfl, rfl⟩
      have e0 : ((nw 3).st == 0) = true := rfl
      rw [e0]
      clear e0
      obtain ⟨x0, x1, x2, x3⟩ := H4.out.fr
      simp only [kF] at x0 x1 x2 x3
      go_wp2_with fail
      have hq := nd_ask H4.out.nd kF
      rw [kf_fv] at hq
      with_reducible refine hq.mono ?_
      clear hq
      rintro y w5 ⟨rfl, h5, hg⟩
      rw [HA.out] at h5 ⊢
      simp only at h5 ⊢
      have H5 := hid (H4.out.at h5 hg)
      clear H4 h5 hg x0 x1 x2 x3
      obtain ⟨x0, x1, x2, x3⟩ := H5.out.fr
      simp only [kF] at x0 x1 x2 x3
      go_wp2_with fail
      have hq := nd_ask H5.out.nd kF
      rw [kf_fv, show M.ask { idleM with waits := true, f := kF } kF = ({ idleM with waits := true, f := kF }, 72) from by unfold M.ask; rw [if_neg (by decide), if_neg (by simp [k_good.ok]), if_pos rfl]] at hq
      with_reducible refine hq.mono ?_
      clear hq
      rintro y w6 ⟨rfl, h6, hg⟩
      have H6 := hid (H5.out.at h6 hg)
      clear H5 h6 hg x0 x1 x2 x3
      go_wp2_with fail
      with_reducible refine (nd_busy H6.out.nd).mono ?_
      rintro y w7 ⟨rfl, rfl⟩
      simp only
      go_wp2_with fail
      have hq := nd_drive H6.out.nd (asked_safe k_good) rd_zero_ok
      with_reducible refine hq.mono ?_
      clear hq
      rintro y w7 ⟨rfl, h7, hg⟩
      rw [show M.drive { idleM with waits := true, f := kF } = false from rfl, show ((sg false).toNat : Int) = 48 from rfl]
      have H7 := hid (H6.out.at h7 hg)
      clear H6 h7 hg
      obtain ⟨x0, x1, x2, x3⟩ := H7.out.fr
      simp only [kF] at x0 x1 x2 x3
      go_wp2_with fail
      have hq := acked_calls false 1365 false ⟨#[]⟩ w7 (by decide)
      with_reducible refine hq.mono ?_
      clear hq
      rintro y w8 ⟨rfl, hb⟩
      rw [show ackF false 1365 false ⟨#[]⟩ = B kF.ack from f_ackF k_good]
      have H8 := hid (H7.out.later hb)
      clear H7 hb x0 x1 x2 x3
      go_wp2_with fail
      have hsz := B_size kF.ack
      have hn1 : 44 ≤ kF.ack.length := by have := (f_len k_good).1; have := ack_len kF; omega
      have hn2 : kF.ack.length ≤ 1000 := by have := (f_len k_good).2; have := ack_len kF; omega
      have hst : ∀ j, j + 1 < kF.ack.length → (sdM kF j).sample (bitAt kF.ack j) = (sdM kF (j + 1), if j = 0 then [⟨6, Fm.zero, 0⟩] else []) := fun j hj => by
        rw [bitAt_eq _ _ (by omega)]
        exact sd_step k_good hj
      have hla : ∀ j, j + 1 = kF.ack.length → (sdM kF j).sample (bitAt kF.ack j) = ({ M.new with r := Rd.zero.all kF.ack }, [⟨1, kF, 0⟩]) := fun j hj => by
        rw [bitAt_eq _ _ (by omega)]
        exact sd_last k_good hj
      have hix := idx_at kF.ack
      have hsf : ∀ j, j < kF.ack.length → MacW.Safe (sdM kF j) := fun j hj => sd_safe k_good hj
      generalize Rd.zero.all kF.ack = rl at hla
      generalize kF.ack = A at hsz hn1 hn2 hst hla hix hsf ⊢
      obtain ⟨n, hn⟩ : ∃ n, n = A.length := ⟨_, rfl⟩
      rw [← hn] at hsz hn1 hn2 hst hla hix hsf
      have HST := hid hst
      have HLA := hid hla
      have HIX := hid hix
      have HSF := hid hsf
      have HN1 := hid hn1
      have HN2 := hid hn2
      clear hst hla hix hsf hn hn1 hn2
      go_loopw [5] (fun i wr => ∃ j : Nat, j < n ∧ i = .int .i64 j ∧ KS w wr g p (sdM kF j) kF) (fun i _ => n - (intOf i).toNat)
      case atStart => exact ⟨0, by have := HN1.out; omega, rfl, H8.out⟩
      case round =>
        clear H8
        obtain ⟨j, hj, rfl, HB⟩ := hrel
        have H9 := hid HB
        clear HB
        have u0 : ((j : Int) < (n : Int)) = True := eq_true (by omega)
        have u1 : decide ((j : Int) < (n : Int)) = true := decide_eq_true (by omega)
        have u3 : (j < n) = True := eq_true hj
        have u4 : IntKind.i64.wrap ((j : Int) + 1) = ((j + 1 : Nat) : Int) := by have := HN2.out; rw [IntKind.wrap_i64]; omega
        have u5 : IntKind.i64.wrap ((n : Int) - 1) = (n : Int) - 1 := by have := HN2.out; rw [IntKind.wrap_i64]; omega
        have hx := HIX.out j hj
        go_wp2_with fail
        have hq := nd_sample H9.out.nd (HSF.out j hj) (bitAt A j) _ (sg_48b _)
        with_reducible refine hq.mono ?_
        clear hq hx
        rintro y w10 ⟨v, rfl, h10, hev, hg⟩
        by_cases hl : j + 1 < n
        · rw [HST.out j hl] at h10 hev
          have H10 := hid (H9.out.at h10 hg)
          by_cases h0 : j = 0
          · rw [if_pos h0] at hev
            obtain ⟨q, cap, rfl, hq, y0, _, _, _, _, _⟩ := evs_one hev
            subst h0
            clear H9 h10 hev hg
            go_wp2_with fail
            exact ⟨⟨1, hl, rfl, H10.out⟩, by have := HN1.out; simp [intOf]; omega⟩
          · rw [if_neg h0] at hev
            obtain ⟨q, cap, rfl, _⟩ := evs_slice hev
            have v1 : ((j : Int) == 0) = false := by simp; omega
            have v2 : ((j : Int) = 0) = False := eq_false (by omega)
            have v3 : ((j : Int) == (n : Int) - 1) = false := by simp; omega
            have v4 : ((j : Int) = (n : Int) - 1) = False := eq_false (by omega)
            have v5 : (j = 0) = False := eq_false h0
            clear H9 h10 hev hg
            go_wp2_with fail
            go_roundw
            case rel => exact ⟨j + 1, hl, by go_num, H10.out⟩
            case measure => simp [intOf]; omega
        · have hl' : j + 1 = n := by omega
          rw [HLA.out j hl'] at h10 hev
          have H10 := hid (H9.out.at h10 hg)
          obtain ⟨q, cap, rfl, _⟩ := evs_one hev
          have HE := hid (show E1 w10 q ⟨1, kF, 0⟩ from ⟨_, cap, hev⟩)
          have hN1 := HN1.out
          have v1 : ((j : Int) == 0) = false := by simp; omega
          have v2 : ((j : Int) = 0) = False := eq_false (by omega)
          have v3 : ((j : Int) == (n : Int) - 1) = true := by simp; omega
          have v4 : ((j : Int) = (n : Int) - 1) = True := eq_true (by omega)
          have v5 : (j = 0) = False := eq_false (by omega)
          clear H9 h10 hev hg
          go_wp2_with fail
          generalize hM : ({ M.new with r := rl } : M) = m9 at H10
          have hw : m9.waits = false := by rw [← hM]; rfl
          have hc1 : m9.sent = 0 := by rw [← hM]; rfl
          have hc2 : m9.got = 0 := by rw [← hM]; rfl
          clear hM
          have HWt := hid hw
          have HC1 := hid hc1
          have HC2 := hid hc2
          clear hw hc1 hc2 v1 v2 v3 v4 v5 hN1
          refine region_text (by kernel_rfl) (by kernel_rfl) (fun _ _ W => KS w W g p m9 kF ∧ E1 W q ⟨1, kF, 0⟩) ⟨H10.out.drew, HE.out.drew⟩ ?_
          clear H10 HE
          iterate 30 ((try simp only [Act.put, List.setIfInBounds_toArray, List.set_cons_zero, List.set_cons_succ]); first
            | (refine t_skip (fun _ => rfl) (fun b γ W h => h) ?_)
            | (refine t_call (.bool false) (fun _ => rfl) (f := 19) (args := #[.pointer (some ⟨g, 0, none⟩)]) ?_ (fun b γ W h _ => (nd_busy h.1.nd).mono (fun e w2 h2 => ⟨by rw [h2.1, HWt.out], by rw [← h2.2]; exact h⟩)) ?_; · (intro b γ W h _; go_simp; done))
            | (refine t_call (.agg #[.int .i64 0, .int .i64 0]) (fun _ => rfl) (f := 22) (args := #[.pointer (some ⟨g, 0, none⟩)]) ?_ (fun b γ W h _ => (nd_counts h.1.nd).mono (fun e w2 h2 => ⟨by rw [h2.1, HC1.out, HC2.out], h.1.later h2.2.2, h.2.later h2.2.2⟩)) ?_; · (intro b γ W h _; go_simp; done))
            | (refine t_pure ?_ (fun _ => rfl) (fun b γ W h => h) (fun b γ W h _ => ?_) ?_; rotate_left; · (obtain ⟨y0, y1, y2, y3, y4, y5⟩ := h.2.get; obtain ⟨x0, x1, x2, x3⟩ := h.1.fr; simp only [kF] at y0 y1 y2 y3 y4 y5 x0 x1 x2 x3; go_simp; rfl)))
          refine t_end ?_
          intro bq gq w11 hall hS
          clear hall
          (try simp only [Act.put, List.setIfInBounds_toArray, List.set_cons_zero, List.set_cons_succ])
          go_wp2_with fail
          go_ret
          exact ⟨rfl, hS.1.nd.below⟩
end Go.Proofs.Ytgmjofcbdimjgaa.MacL
