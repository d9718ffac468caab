/- MacWaits (layer 7): what is asked for while another one's frame is on the wire goes out behind it. Conditions: none beyond the types of the arguments; what is no frame is let pass. -/
import Derived.Test.YtgmjofcbdimjgaaMacKnown
import Derived.Test.YtgmjofcbdimjgaaMacIdle
namespace Go.Proofs.Ytgmjofcbdimjgaa.MacL
set_option linter.unusedVariables false
set_option linter.unusedSimpArgs false
open Go Go.RowKit Go.Proofs.Ytgmjofcbdimjgaa.Lib Go.Proofs.Ytgmjofcbdimjgaa.Bits Go.Proofs.Ytgmjofcbdimjgaa.BitsW Go.Proofs.Ytgmjofcbdimjgaa.StuffW Go.Proofs.Ytgmjofcbdimjgaa.Frame Go.Proofs.Ytgmjofcbdimjgaa.FrameW Go.Proofs.Ytgmjofcbdimjgaa.Code Go.Proofs.Ytgmjofcbdimjgaa.CodeW Go.Proofs.Ytgmjofcbdimjgaa.CodeL Go.Proofs.Ytgmjofcbdimjgaa.Mac Go.Proofs.Ytgmjofcbdimjgaa.MacW Go.Proofs.Ytgmjofcbdimjgaa.PrintMore
attribute [local go_sem] max2_int min2_int max_two min_two
attribute [local go_sem] field_got field_sent
attribute [local go_sem high] eqA24
def askM (m : M) (f : Fm) : M := { m with waits := true, f := f }
theorem hr_ask {m : M} {f g : Fm} (hg : g.Good) (hw : m.waits = false) {k : Nat} : (hrM m f k).ask g = (hrM (askM m g) f k, 0) := by
  have h7 : (hrM m f k).st ≠ 7 := by
    unfold hrM
    split
    · show (1 : Int) ≠ 7; decide
    · split
      · show (2 : Int) ≠ 7; decide
      · show (6 : Int) ≠ 7; decide
  have hw2 : (hrM m f k).waits = false := by
    unfold hrM
    split
    · exact hw
    · split
      · exact hw
      · exact hw
  unfold M.ask
  rw [if_neg h7, if_neg (by rw [hg.ok]; decide), if_neg (by rw [hw2]; decide)]
  unfold hrM
  split
  · rfl
  · split
    · rfl
    · rfl
/-- The node's states: it hears, asked behind k bits; it pauses; it sends. -/
def waM (f g : Fm) (k j : Nat) : M := if j = 0 then idleM else if j ≤ k then hrM idleM f j else hrM (askM idleM g) f j
def waP (f g : Fm) (j : Nat) : M := if j < 3 then { hrM (askM idleM g) f f.ack.length with left := 3 - (j : Int) } else { hrM (askM idleM g) f f.ack.length with st := 0, left := 0 }
structure WaF (g : Fm) (A1 A2 : List Bool) (n1 n2 k : Nat) (m1 : Nat → M) (mk : M) (m2 m3 : Nat → M) : Prop where
  len1 : A1.length = n1
  len2 : A2.length = n2
  lo1 : 44 ≤ n1
  hi1 : n1 ≤ 246
  lo2 : 44 ≤ n2
  hi2 : n2 ≤ 246
  first : m1 0 = idleM
  step1 : ∀ j, j < n1 → j ≠ k → ∃ ev, (m1 j).sample (bitAt A1 j) = (m1 (j + 1), ev)
  ask : (m1 k).ask g = (mk, 0)
  stepk : ∃ ev, mk.sample (bitAt A1 k) = (m1 (k + 1), ev)
  mid : m1 n1 = m2 0
  pause : ∀ j, j < 3 → (m2 j).sample true = (m2 (j + 1), []) ∧ (m2 j).drive = true
  go : m2 3 = m3 0
  drive : ∀ j, j < n2 → j + 9 ≠ n2 → (m3 j).drive = bitAt A2 j
  drive9 : ∀ j, j + 9 = n2 → (m3 j).drive = true ∧ bitAt A2 j = false
  step3 : ∀ j, j + 1 < n2 → ∃ ev, (m3 j).sample (bitAt A2 j) = (m3 (j + 1), ev)
  last : ∀ j, j + 1 = n2 → ∃ e, (m3 j).sample (bitAt A2 j) = (e, [⟨1, g, 0⟩])
theorem ack_bit (f : Fm) (h : f.Good) {j : Nat} (hj : j + 9 = f.ack.length) : bitAt f.ack j = false := by
  have hl := ack_len f
  have e : j = (stuff f.S).length + 1 := by omega
  unfold bitAt Fm.ack
  rw [List.getD_eq_getElem?_getD, e, List.getElem?_append_right (by omega), Nat.add_sub_cancel_left]
  rfl
theorem wa_facts {f g : Fm} (hf : f.Good) (hg : g.Good) {k : Nat} (h1 : 1 ≤ k) (h2 : k < f.ack.length) : WaF g f.ack g.ack f.ack.length g.ack.length k (waM f g k) (hrM (askM idleM g) f k) (waP f g) (sqM (waP f g 3) g) := by
  have l1 := ack_long hf
  have l2 := ack_long hg
  have ea : ∀ j, k < j → waM f g k j = hrM (askM idleM g) f j := fun j h => by unfold waM; rw [if_neg (show ¬ j = 0 by omega), if_neg (show ¬ j ≤ k by omega)]
  have eb : ∀ j, 0 < j → j ≤ k → waM f g k j = hrM idleM f j := fun j h h' => by unfold waM; rw [if_neg (show ¬ j = 0 by omega), if_pos h']
  have hs : ∀ m, cOk m.sent m.got = true → gotC m.got true = m.got → ∀ j, 0 < j → j < f.ack.length → ∃ ev, (hrM m f j).sample (bitAt f.ack j) = (hrM m f (j + 1), ev) := by
    intro m hc hgo j h0 hj
    rw [bitAt_eq _ _ hj]
    by_cases h : j + 1 < f.ack.length
    · exact ⟨_, hr_next hf hc hgo h h0⟩
    · exact ⟨_, hr_done hf (by omega) _⟩
  refine ⟨rfl, rfl, l1.1, l1.2, l2.1, l2.2, rfl, fun j hj hk => ?_, ?_, ?_, ?_, fun j hj => ?_, ?_, fun j hj h9 => ?_, fun j h9 => ⟨?_, ack_bit g hg h9⟩, fun j hj => ?_, fun j hj => ?_⟩
  · by_cases h0 : j = 0
    · subst h0
      rw [eb 1 (by omega) h1, bitAt_eq _ _ (by omega), ack_get f (by omega)]
      exact ⟨_, hr_first hf rfl rfl rfl⟩
    · by_cases h : j < k
      · rw [eb j (by omega) (by omega), eb (j + 1) (by omega) (by omega)]
        exact hs idleM rfl rfl j (by omega) hj
      · rw [ea j (by omega), ea (j + 1) (by omega)]
        exact hs (askM idleM g) rfl rfl j (by omega) hj
  · rw [eb k h1 (Nat.le_refl _)]
    exact hr_ask hg rfl
  · rw [ea (k + 1) (by omega)]
    exact hs (askM idleM g) rfl rfl k h1 h2
  · rw [ea _ h2, hr_end rfl]
    unfold waP
    rw [if_pos (by decide), hr_end rfl]
    rfl
  · have e : waP f g j = { hrM (askM idleM g) f f.ack.length with left := 3 - (j : Int) } := if_pos hj
    rw [e, hr_end rfl]
    refine ⟨?_, drive_other (by show (6 : Int) ≠ 0; decide) (by show (6 : Int) ≠ 1; decide) (by show (6 : Int) ≠ 3; decide)⟩
    rw [sample_pause rfl]
    by_cases h : j = 2
    · subst h
      rw [counted_end rfl]
      unfold waP
      rw [if_neg (by decide), hr_end rfl]
    · rw [counted_go (by show 1 < 3 - (j : Int); omega)]
      unfold waP
      rw [if_pos (by omega), hr_end rfl]
      have : (3 - (j : Int)) - 1 = 3 - ((j + 1 : Nat) : Int) := by omega
      simp only [this]
  · unfold sqM
    rw [if_pos rfl]
    have e : waP f g 3 = { hrM (askM idleM g) f f.ack.length with st := 0, left := 0 } := if_neg (by decide)
    rw [e, hr_end rfl]
    rfl
  · rw [bitAt_eq _ _ hj, sq_drive hg hj, if_neg h9]
  · rw [sq_drive hg (by omega), if_pos h9]
  · rw [bitAt_eq _ _ (by omega)]
    exact ⟨_, sq_step hg hj⟩
  · rw [bitAt_eq _ _ (by omega)]
    exact ⟨_, sq_last hg hj⟩
/-- Two frames of the law's; a node beside them. -/
structure X2 (w W : World) (p1 p2 : Nat) (f1 f2 : Fm) : Prop where
  b1 : Blk W p1 24 (fc f1)
  b2 : Blk W p2 24 (fc f2)
  below : Below w.heap.size w W
  le1 : w.heap.size ≤ p1
  le2 : w.heap.size ≤ p2
theorem X2.later {w W W' : World} {p1 p2 : Nat} {f1 f2 : Fm} (h : X2 w W p1 p2 f1 f2) (k : Below W.heap.size W W') : X2 w W' p1 p2 f1 f2 := ⟨h.b1.below k, h.b2.below k, h.below.trans (k.mono h.below.size), h.le1, h.le2⟩
theorem X2.drew {w W : World} {p1 p2 : Nat} {f1 f2 : Fm} (h : X2 w W p1 p2 f1 f2) : X2 w W.drew p1 p2 f1 f2 := ⟨h.b1.drew, h.b2.drew, h.below.drew, h.le1, h.le2⟩
theorem X2.make (w : World) (f1 f2 : Fm) : X2 w ((w.alloc (.cells #[.bool f1.e, .int .u32 f1.i, .bool f1.r, .string f1.d] 24)).alloc (.cells #[.bool f2.e, .int .u32 f2.i, .bool f2.r, .string f2.d] 24)) w.heap.size (w.heap.size + 1) f1 f2 := by
  have s1 : (w.alloc (.cells #[.bool f1.e, .int .u32 f1.i, .bool f1.r, .string f1.d] 24)).heap.size = w.heap.size + 1 := by simp
  have h2 := Blk.new (w.alloc (.cells #[.bool f1.e, .int .u32 f1.i, .bool f1.r, .string f1.d] 24)) (fc f2) 24
  rw [s1] at h2
  exact ⟨(Blk.new w (fc f1) _).alloc _, h2, ((Below.refl _ _).alloc (Nat.le_refl _) _).alloc (by simp) _, Nat.le_refl _, Nat.le_succ _⟩
structure N2 (w W : World) (g p1 p2 : Nat) (m : M) (f1 f2 : Fm) : Prop where
  nf : Nf w W g m
  b1 : Blk W p1 24 (fc f1)
  b2 : Blk W p2 24 (fc f2)
  ne1 : p1 ≠ g
  ne2 : p2 ≠ g
theorem X2.nd {w W W' : World} {g p1 p2 : Nat} {m : M} {f1 f2 : Fm} (h : X2 w W p1 p2 f1 f2) (k : Nf w W' g m) (hg : W.heap.size ≤ g) (hb : Below W.heap.size W W') : N2 w W' g p1 p2 m f1 f2 :=
  ⟨k, h.b1.below hb, h.b2.below hb, by have := h.b1.lt; omega, by have := h.b2.lt; omega⟩
theorem N2.at {w W W' : World} {g p1 p2 : Nat} {m m' : M} {f1 f2 : Fm} (h : N2 w W g p1 p2 m f1 f2) (k : Nf w W' g m') (hg : W.grownBy W' (some g)) : N2 w W' g p1 p2 m' f1 f2 := ⟨k, h.b1.grown hg (by simpa using h.ne1), h.b2.grown hg (by simpa using h.ne2), h.ne1, h.ne2⟩
theorem N2.later {w W W' : World} {g p1 p2 : Nat} {m : M} {f1 f2 : Fm} (h : N2 w W g p1 p2 m f1 f2) (k : Below W.heap.size W W') : N2 w W' g p1 p2 m f1 f2 := ⟨h.nf.later k, h.b1.below k, h.b2.below k, h.ne1, h.ne2⟩
theorem N2.drew {w W : World} {g p1 p2 : Nat} {m : M} {f1 f2 : Fm} (h : N2 w W g p1 p2 m f1 f2) : N2 w W.drew g p1 p2 m f1 f2 := ⟨h.nf.drew, h.b1.drew, h.b2.drew, h.ne1, h.ne2⟩
theorem none_empty : (⟨#[]⟩ : ByteArray).toList.isEmpty = true := by
  rw [show (⟨#[]⟩ : ByteArray) = B [] from rfl, Facts.B_list]
  rfl
set_option maxRecDepth 100000 in
set_option maxHeartbeats 6400000 in
theorem waits_calls (f1 f2 : Fm) (a : Int) (w : World) (hw1 : f1.wf) (hw2 : f2.wf) (ha : 0 ≤ a ∧ a < 256) : Calls Try.prog 7 #[.agg #[.bool f1.e, .int .u32 f1.i, .bool f1.r, .string f1.d], .agg #[.bool f2.e, .int .u32 f2.i, .bool f2.r, .string f2.d], .int .u8 a] w
    fun e w' => e = .returned (.bool true) ∧ Below w.heap.size w w' := by
  have HB := hid (X2.make w f1 f2)
  have HA := hid ha
  clear ha
  go_enter Try.func7, Try.ntmps7
  go_wp2_with fail
  with_reducible refine (known_calls _).mono ?_
  rintro y w1 ⟨rfl, hb⟩
  have HC := hid (HB.out.later hb)
  clear HB hb
  generalize hp : w.heap.size = p at HC ⊢
  have hpp : ∃ p2, p + 1 = p2 := ⟨_, rfl⟩
  obtain ⟨p2, hp2⟩ := hpp
  rw [hp2] at HC ⊢
  go_wp2_with fail
  refine region_text (by kernel_rfl) (by kernel_rfl) (fun _ _ W => X2 w W p p2 f1 f2) HC.out.drew ?_
  clear HC
  iterate 6 ((try simp only [Act.put, List.setIfInBounds_toArray, List.set_cons_zero, List.set_cons_succ]); first
    | (refine t_skip (fun _ => rfl) (fun b γ W h => h) ?_)
    | (refine t_call (.string (ackF f1.e f1.i f1.r f1.d)) (fun _ => rfl) (f := 14) (args := #[fv f1]) ?_ (fun b γ W h _ => (acked_calls f1.e f1.i f1.r f1.d W hw1).mono (fun e w2 h2 => ⟨h2.1, h.later h2.2⟩)) ?_; · (intro b γ W h _; obtain ⟨x0, x1, x2, x3⟩ := blk_fr h.b1; rw [fv_eq]; go_simp; done))
    | (refine t_call (.string (ackF f2.e f2.i f2.r f2.d)) (fun _ => rfl) (f := 14) (args := #[fv f2]) ?_ (fun b γ W h _ => (acked_calls f2.e f2.i f2.r f2.d W hw2).mono (fun e w2 h2 => ⟨h2.1, h.later h2.2⟩)) ?_; · (intro b γ W h _; obtain ⟨x0, x1, x2, x3⟩ := blk_fr h.b2; rw [fv_eq]; go_simp; done))
    | (refine t_pure ?_ (fun _ => rfl) (fun b γ W h => h) (fun b γ W h _ => ?_) ?_; rotate_left; · (obtain ⟨x0, x1, x2, x3⟩ := blk_fr h.b1; obtain ⟨y0, y1, y2, y3⟩ := blk_fr h.b2; go_simp; rfl)))
  refine t_end ?_
  intro bq gq w3 hall hS
  clear hall
  have HD := hid hS
  clear hS
  (try simp only [Act.put, List.setIfInBounds_toArray, List.set_cons_zero, List.set_cons_succ])
  obtain ⟨x0, x1, x2, x3⟩ := blk_fr HD.out.b1
  obtain ⟨y0, y1, y2, y3⟩ := blk_fr HD.out.b2
  by_cases hok : f1.ok = false ∨ f2.ok = false
  · obtain ⟨z1, z2, hz⟩ : ∃ z1 z2 : Bool, (ackF f1.e f1.i f1.r f1.d).toList.isEmpty = z1 ∧ (ackF f2.e f2.i f2.r f2.d).toList.isEmpty = z2 := ⟨_, _, rfl, rfl⟩
    obtain ⟨hz1, hz2⟩ := hz
    have hzz : z1 = true ∨ z2 = true := by
      rcases hok with h | h
      · left; rw [← hz1, ackF_no h]; exact none_empty
      · right; rw [← hz2, ackF_no h]; exact none_empty
    by_cases h20 : f1.d.size ≤ 20
    · by_cases h21 : f2.d.size ≤ 20
      · rcases hzz with rfl | rfl
        · go_wp2_with fail
          go_ret
          exact ⟨rfl, by subst hp; exact HD.out.below⟩
        · cases z1
          · go_wp2_with fail
            go_ret
            exact ⟨rfl, by subst hp; exact HD.out.below⟩
          · go_wp2_with fail
            go_ret
            exact ⟨rfl, by subst hp; exact HD.out.below⟩
      · go_wp2_with fail
        go_ret
        exact ⟨rfl, by subst hp; exact HD.out.below⟩
    · go_wp2_with fail
      go_ret
      exact ⟨rfl, by subst hp; exact HD.out.below⟩
  · have hok1 : f1.ok = true := by simpa using fun h => hok (.inl h)
    have hok2 : f2.ok = true := by simpa using fun h => hok (.inr h)
    clear hok
    have hg1 : f1.Good := ⟨hok1, hw1⟩
    have hg2 : f2.Good := ⟨hok2, hw2⟩
    rw [show ackF f1.e f1.i f1.r f1.d = B f1.ack from f_ackF hg1, show ackF f2.e f2.i f2.r f2.d = B f2.ack from f_ackF hg2]
    have em1 := ack_full hg1
    have em2 := ack_full hg2
    have h20 : decide (20 < (f1.d.size : Int)) = false := decide_eq_false (by have := ok_data hok1; omega)
    have h21 : decide (20 < (f2.d.size : Int)) = false := decide_eq_false (by have := ok_data hok2; omega)
    go_wp2_with fail
    have hq := idle_calls (w0 := w) HD.out.below
    with_reducible refine hq.mono ?_
    clear hq
    rintro y w4 ⟨rfl, h3, hb3⟩
    have H3 := hid (HD.out.nd h3 (Nat.le_refl _) hb3)
    clear h3 hb3 HD x0 x1 x2 x3 y0 y1 y2 y3 h20 h21 em1 em2
    generalize w3.heap.size = g at H3 ⊢
    have hl1 := ack_long hg1
    have ha1 := HA.out.1
    have ha2 := HA.out.2
    obtain ⟨k, hk, hk1, hk2⟩ : ∃ k : Nat, a.tmod ((f1.ack.length : Int) - 1) = (k : Int) - 1 ∧ 1 ≤ k ∧ k < f1.ack.length := by
      have e : a.tmod ((f1.ack.length : Int) - 1) = a % ((f1.ack.length : Int) - 1) := Int.tmod_eq_emod_of_nonneg HA.out.1
      have e1 := Int.emod_nonneg a (b := (f1.ack.length : Int) - 1) (by omega)
      have e2 := Int.emod_lt_of_pos a (b := (f1.ack.length : Int) - 1) (by omega)
      exact ⟨(a % ((f1.ack.length : Int) - 1)).toNat + 1, by rw [e]; omega, by omega, by omega⟩
    have hF := wa_facts hg1 hg2 (k := k) hk1 hk2
    have hsz1 := B_size f1.ack
    have hsz2 := B_size f2.ack
    have HX1 := hid (idx_at f1.ack)
    have HX2 := hid (idx_at f2.ack)
    clear hl1 hok1 hok2
    generalize f1.ack = A1 at hF hsz1 HX1 hk hk1 hk2 ⊢
    generalize f2.ack = A2 at hF hsz2 HX2 ⊢
    generalize A1.length = n1 at hF hsz1 HX1 hk hk1 hk2 ⊢
    generalize A2.length = n2 at hF hsz2 HX2 ⊢
    generalize waM f1 f2 k = m1 at hF
    generalize hrM (askM idleM f2) f1 k = mk at hF
    generalize sqM (waP f1 f2 3) f2 = m3 at hF
    generalize waP f1 f2 = m2 at hF
    have a1 := hF.lo1
    have a2 := hF.hi1
    have a3 := hF.lo2
    have a4 := hF.hi2
    rw [← hF.first] at H3
    have HF := hid hF
    clear hF
    have ha3 := ha1
    have u5 : IntKind.i64.wrap ((n1 : Int) - 1) = (n1 : Int) - 1 := by rw [IntKind.wrap_i64]; omega
    have u7 : ((n1 : Int) - 1 = 0) = False := eq_false (by omega)
    go_wp2_with fail
    clear ha1 ha2 ha3 u5 u7 hk
    go_loopw [11] (fun i wr => ∃ j : Nat, j ≤ n1 ∧ i = .int .i64 j ∧ N2 w wr g p p2 (m1 j) f1 f2) (fun i _ => n1 - (intOf i).toNat)
    case atStart => exact ⟨0, Nat.zero_le _, rfl, H3.out⟩
    case round =>
      clear H3
      obtain ⟨j, hj, rfl, HX⟩ := hrel
      have H4 := hid HX
      clear HX
      by_cases hlt : j < n1
      · have u0 : ((j : Int) < n1) = True := eq_true (by omega)
        have u1 : decide ((j : Int) < n1) = true := decide_eq_true (by omega)
        have u2 : IntKind.i64.wrap ((j : Int) + 1) = ((j + 1 : Nat) : Int) := by rw [IntKind.wrap_i64]; omega
        have u3 : (j < n1) = True := eq_true hlt
        have hx := HX1.out j hlt
        by_cases hjk : j = k
        · subst hjk
          obtain ⟨y0, y1, y2, y3⟩ := blk_fr H4.out.b2
          go_wp2_with fail
          have hq := nf_ask H4.out.nf f2 hw2
          rw [fv_eq, HF.out.ask] at hq
          with_reducible refine hq.mono ?_
          clear hq
          rintro y w5 ⟨rfl, h5, hg⟩
          have H5 := hid (H4.out.at h5 hg)
          clear H4 h5 hg y0 y1 y2 y3
          simp only
          go_wp2_with fail
          with_reducible refine (nf_sample H5.out.nf (bitAt A1 j) _ (sg_48b _)).mono ?_
          rintro y w6 ⟨v, rfl, h6, _, hg⟩
          obtain ⟨ev, hs⟩ := HF.out.stepk
          rw [hs] at h6
          have H6 := hid (H5.out.at h6 hg)
          clear H5 h6 hg hs hx
          go_wp2_with fail
          go_roundw
          case rel => exact ⟨j + 1, by omega, by go_num, H6.out⟩
          case measure => simp [intOf]; omega
        · have v1 : ((j : Int) == (k : Int)) = false := by simp; omega
          have v2 : ((j : Int) = (k : Int)) = False := eq_false (by omega)
          have v3 : (j = k) = False := eq_false hjk
          go_wp2_with fail
          with_reducible refine (nf_sample H4.out.nf (bitAt A1 j) _ (sg_48b _)).mono ?_
          rintro y w5 ⟨v, rfl, h5, _, hg⟩
          obtain ⟨ev, hs⟩ := HF.out.step1 j hlt hjk
          rw [hs] at h5
          have H5 := hid (H4.out.at h5 hg)
          clear H4 h5 hg hs hx v1 v2
          go_wp2_with fail
          go_roundw
          case rel => exact ⟨j + 1, by omega, by go_num, H5.out⟩
          case measure => simp [intOf]; omega
      · obtain rfl : j = n1 := by omega
        have h5 := H4.out
        rw [HF.out.mid] at h5
        have H5 := hid h5
        clear H4 h5 hlt hj
        go_wp2_with fail
        go_loopw [12] (fun i wr => ∃ j : Nat, j ≤ 3 ∧ i = .int .i64 j ∧ N2 w wr g p p2 (m2 j) f1 f2) (fun i _ => 3 - (intOf i).toNat)
        case atStart => exact ⟨0, Nat.zero_le _, rfl, H5.out⟩
        case round =>
          clear H5
          obtain ⟨i, hi, rfl, HX⟩ := hrel
          have H6 := hid HX
          clear HX
          by_cases hlt : i < 3
          · have u0 : ((i : Int) < 3) = True := eq_true (by omega)
            have u1 : decide ((i : Int) < 3) = true := decide_eq_true (by omega)
            have u2 : IntKind.i64.wrap ((i : Int) + 1) = ((i + 1 : Nat) : Int) := by rw [IntKind.wrap_i64]; omega
            have u3 : (i < 3) = True := eq_true hlt
            obtain ⟨q1, q2⟩ := HF.out.pause i hlt
            go_wp2_with fail
            with_reducible refine (nf_drive H6.out.nf).mono ?_
            rintro y w8 ⟨rfl, h8, hg⟩
            rw [q2, show ((sg true).toNat : Int) = 49 from rfl]
            have H8 := hid (H6.out.at h8 hg)
            clear H6 h8 hg
            go_wp2_with fail
            with_reducible refine (nf_sample H8.out.nf true 49 rfl).mono ?_
            rintro y w9 ⟨v, rfl, h9, _, hg⟩
            rw [q1] at h9
            have H9 := hid (H8.out.at h9 hg)
            clear H8 h9 hg q1 q2
            go_wp2_with fail
            go_roundw
            case rel => exact ⟨i + 1, by omega, by go_num, H9.out⟩
            case measure => simp [intOf]; omega
          · obtain rfl : i = 3 := by omega
            have h7 := H6.out
            rw [HF.out.go] at h7
            have H7 := hid h7
            clear H6 h7 hlt hi
            go_wp2_with fail
            simp only [Int.cast_ofNat_Int]
            go_loopw [13] (fun i wr => ∃ j : Nat, j < n2 ∧ i = .int .i64 j ∧ N2 w wr g p p2 (m3 j) f1 f2) (fun i _ => n2 - (intOf i).toNat)
            case atStart => exact ⟨0, by omega, rfl, H7.out⟩
            case round =>
              clear H7
              obtain ⟨i, hi, rfl, HX⟩ := hrel
              have H8 := hid HX
              clear HX
              have u0 : ((i : Int) < n2) = True := eq_true (by omega)
              have u1 : decide ((i : Int) < n2) = true := decide_eq_true (by omega)
              have u2 : IntKind.i64.wrap ((i : Int) + 1) = ((i + 1 : Nat) : Int) := by rw [IntKind.wrap_i64]; omega
              have u3 : (i < n2) = True := eq_true hi
              have u8 : IntKind.i64.wrap ((n2 : Int) - 9) = (n2 : Int) - 9 := by rw [IntKind.wrap_i64]; omega
              have u9 : IntKind.i64.wrap ((n2 : Int) - 1) = (n2 : Int) - 1 := by rw [IntKind.wrap_i64]; omega
              have hx := HX2.out i hi
              by_cases h9 : i + 9 = n2
              · obtain ⟨q1, q2⟩ := HF.out.drive9 i h9
                have v9 : ((i : Int) == (n2 : Int) - 9) = true := by simp; omega
                have v9' : ((i : Int) = (n2 : Int) - 9) = True := eq_true (by omega)
                rw [q2, show ((sg false).toNat : Int) = 48 from rfl] at hx
                go_wp2_with fail
                refine region_text (by kernel_rfl) (by kernel_rfl) (fun _ _ W => N2 w W g p p2 (m3 i) f1 f2) H8.out.drew ?_
                clear H8
                iterate 13 ((try simp only [Act.put, List.setIfInBounds_toArray, List.set_cons_zero, List.set_cons_succ]); first
                  | (refine t_skip (fun _ => rfl) (fun b γ W h => h) ?_)
                  | (refine t_call (.int .u8 49) (fun _ => rfl) (f := 17) (args := #[.pointer (some ⟨g, 0, none⟩)]) ?_ (fun b γ W h _ => (nf_drive h.nf).mono (fun e w2 h2 => ⟨by rw [h2.1, q1]; rfl, h.at h2.2.1 h2.2.2⟩)) ?_; · (intro b γ W h _; go_simp; done))
                  | (refine t_pure ?_ (fun _ => rfl) (fun b γ W h => h) (fun b γ W h _ => ?_) ?_; rotate_left; · (go_simp; first | rfl | (simp; done))))
                refine t_end ?_
                intro bq9 gq9 w8 hall hS
                clear hall
                have H9 := hid hS
                clear hS q1
                (try simp only [Act.put, List.setIfInBounds_toArray, List.set_cons_zero, List.set_cons_succ])
                go_wp2_with fail
                have hxx : ((48 : Int) == 48) = !(bitAt A2 i) := by rw [q2]; rfl
                with_reducible refine (nf_sample H9.out.nf (bitAt A2 i) 48 hxx).mono ?_
                rintro y w9 ⟨v, rfl, h10, hev, hg⟩
                obtain ⟨ev, hs⟩ := HF.out.step3 i (by omega)
                rw [hs] at h10
                have H10 := hid (H9.out.at h10 hg)
                clear H9 h10 hg hs hev
                have v1 : ((i : Int) == (n2 : Int) - 1) = false := by simp; omega
                have v1' : ((i : Int) = (n2 : Int) - 1) = False := eq_false (by omega)
                go_wp2_with fail
                go_roundw
                case rel => exact ⟨i + 1, by omega, by go_num, H10.out⟩
                case measure => simp [intOf]; omega
              · have q1 := HF.out.drive i hi h9
                have v9 : ((i : Int) == (n2 : Int) - 9) = false := by simp; omega
                have v9' : ((i : Int) = (n2 : Int) - 9) = False := eq_false (by omega)
                go_wp2_with fail
                refine region_text (by kernel_rfl) (by kernel_rfl) (fun _ _ W => N2 w W g p p2 (m3 i) f1 f2) H8.out.drew ?_
                clear H8
                iterate 13 ((try simp only [Act.put, List.setIfInBounds_toArray, List.set_cons_zero, List.set_cons_succ]); first
                  | (refine t_skip (fun _ => rfl) (fun b γ W h => h) ?_)
                  | (refine t_call (.int .u8 ((sg (bitAt A2 i)).toNat : Int)) (fun _ => rfl) (f := 17) (args := #[.pointer (some ⟨g, 0, none⟩)]) ?_ (fun b γ W h _ => (nf_drive h.nf).mono (fun e w2 h2 => ⟨by rw [h2.1, q1], h.at h2.2.1 h2.2.2⟩)) ?_; · (intro b γ W h _; go_simp; done))
                  | (refine t_pure ?_ (fun _ => rfl) (fun b γ W h => h) (fun b γ W h _ => ?_) ?_; rotate_left; · (go_simp; first | rfl | (simp; done))))
                refine t_end ?_
                intro bq9 gq9 w8 hall hS
                clear hall
                have H9 := hid hS
                clear hS q1
                (try simp only [Act.put, List.setIfInBounds_toArray, List.set_cons_zero, List.set_cons_succ])
                go_wp2_with fail
                with_reducible refine (nf_sample H9.out.nf (bitAt A2 i) _ (sg_48b _)).mono ?_
                rintro y w9 ⟨v, rfl, h10, hev, hg⟩
                by_cases h1 : i + 1 < n2
                · obtain ⟨ev, hs⟩ := HF.out.step3 i (by omega)
                  rw [hs] at h10
                  have H10 := hid (H9.out.at h10 hg)
                  clear H9 h10 hg hs hev
                  have v1 : ((i : Int) == (n2 : Int) - 1) = false := by simp; omega
                  have v1' : ((i : Int) = (n2 : Int) - 1) = False := eq_false (by omega)
                  go_wp2_with fail
                  go_roundw
                  case rel => exact ⟨i + 1, by omega, by go_num, H10.out⟩
                  case measure => simp [intOf]; omega
                · obtain ⟨mz, hs⟩ := HF.out.last i (by omega)
                  rw [hs] at h10 hev
                  have H10 := hid (H9.out.at h10 hg)
                  obtain ⟨q, cap, rfl, _⟩ := evs_one hev
                  have HE := hid (show E1 w9 q ⟨1, f2, 0⟩ from ⟨_, cap, hev⟩)
                  clear H9 h10 hg hs hev
                  have v1 : ((i : Int) == (n2 : Int) - 1) = true := by simp; omega
                  have v1' : ((i : Int) = (n2 : Int) - 1) = True := eq_true (by omega)
                  go_wp2_with fail
                  refine region_text (by kernel_rfl) (by kernel_rfl) (fun _ _ W => N2 w W g p p2 mz f1 f2 ∧ E1 W q ⟨1, f2, 0⟩) ⟨H10.out.drew, HE.out.drew⟩ ?_
                  clear H10 HE
                  iterate 19 ((try simp only [Act.put, List.setIfInBounds_toArray, List.set_cons_zero, List.set_cons_succ]); first
                    | (refine t_skip (fun _ => rfl) (fun b γ W h => h) ?_)
                    | (refine t_pure ?_ (fun _ => rfl) (fun b γ W h => h) (fun b γ W h _ => ?_) ?_; rotate_left; · (obtain ⟨y0, y1, y2, y3, y4, y5⟩ := h.2.get; obtain ⟨x0, x1, x2, x3⟩ := blk_fr h.1.b2; simp only at y0 y1 y2 y3 y4 y5 x0 x1 x2 x3; go_simp; first | rfl | (simp; done))))
                  refine t_end ?_
                  intro bq8 gq8 w11 hall hS
                  clear hall
                  (try simp only [Act.put, List.setIfInBounds_toArray, List.set_cons_zero, List.set_cons_succ])
                  go_wp2_with fail
                  go_ret
                  exact ⟨rfl, by subst hp; exact hS.1.nf.nd.below⟩
theorem waits_walk (e1 : Bool) (i1 : Int) (r1 : Bool) (d1 : ByteArray) (e2 : Bool) (i2 : Int) (r2 : Bool) (d2 : ByteArray) (a : Int) (w : World) (h1 : (Lit.int .u32 i1).wf = true) (_ : d1.size ≤ 9223372036854775807) (h2 : (Lit.int .u32 i2).wf = true) (_ : d2.size ≤ 9223372036854775807) (h3 : (Lit.int .u8 a).wf = true) :
    Calls Try.prog 7 #[.agg #[.bool e1, .int .u32 i1, .bool r1, .string d1], .agg #[.bool e2, .int .u32 i2, .bool r2, .string d2], .int .u8 a] w fun e w' => e = .returned (.bool true) ∧ Below w.heap.size w w' :=
  waits_calls ⟨e1, i1, r1, d1⟩ ⟨e2, i2, r2, d2⟩ a w (by have := bounds_u32 h1; unfold Fm.wf; simp only; omega) (by have := bounds_u32 h2; unfold Fm.wf; simp only; omega) (by have := bounds_u8 h3; omega)
end Go.Proofs.Ytgmjofcbdimjgaa.MacL
