/- WireAll (layer 8): a frame of one comes to all others at the same bit, and none hears its own. Conditions: none beyond the types of the arguments; what is no frame is let pass. -/
import Derived.Test.YtpkpnaedacefaaaWireKnown
import Derived.Test.YtpkpnaedacefaaaRefF
import Derived.Test.YtpkpnaedacefaaaWireSm
namespace Go.Proofs.Ytpkpnaedacefaaa.WireL
set_option linter.unusedVariables false
set_option linter.unusedSimpArgs false
open Go Go.RowKit Go.Proofs.Ytpkpnaedacefaaa.Lib Go.Proofs.Ytpkpnaedacefaaa.Bits Go.Proofs.Ytpkpnaedacefaaa.BitsW Go.Proofs.Ytpkpnaedacefaaa.StuffW Go.Proofs.Ytpkpnaedacefaaa.Frame Go.Proofs.Ytpkpnaedacefaaa.FrameW Go.Proofs.Ytpkpnaedacefaaa.Code Go.Proofs.Ytpkpnaedacefaaa.CodeW Go.Proofs.Ytpkpnaedacefaaa.Mac Go.Proofs.Ytpkpnaedacefaaa.MacW Go.Proofs.Ytpkpnaedacefaaa.MacL Go.Proofs.Ytpkpnaedacefaaa.RefW Go.Proofs.Ytpkpnaedacefaaa.WireN Go.Proofs.Ytpkpnaedacefaaa.WireW Go.Proofs.Ytpkpnaedacefaaa.WireP Go.Proofs.Ytpkpnaedacefaaa.PrintMore
attribute [local go_sem] max2_int min2_int max_two min_two
attribute [local go_sem high] eqA24
/-- How many of them say that a frame came. -/
def cnt2 (L : List Ev) : Nat := (L.filter fun x => x.kind == 2).length
theorem cnt2_app (a b : List Ev) : cnt2 (a ++ b) = cnt2 a + cnt2 b := by unfold cnt2; rw [List.filter_append, List.length_append]
theorem cnt2_le (L : List Ev) : cnt2 L ≤ L.length := List.length_filter_le _ _
theorem cnt2_take (L : List Ev) {j : Nat} {x : Ev} (h : L[j]? = some x) : cnt2 (L.take (j + 1)) = cnt2 (L.take j) + if x.kind = 2 then 1 else 0 := by
  rw [List.take_add_one, h, cnt2_app]
  congr 1
  unfold cnt2
  by_cases hk : x.kind = 2 <;> simp [hk]
/-- What all tell at bit i. -/
def allE (k s : Nat) (f : Fm) (i : Nat) : List Ev := (List.range k).flatMap (fun j => if j = s then oneSE f i else oneLE f i)
theorem oneSE_kind {f : Fm} (i : Nat) : ∀ x ∈ oneSE f i, x.kind ≠ 2 := by
  intro x hx
  unfold oneSE wiE at hx
  split at hx; · cases hx
  split at hx
  · split at hx
    · obtain rfl := List.mem_singleton.1 hx; decide
    · split at hx
      · obtain rfl := List.mem_singleton.1 hx; show (1 : Int) ≠ 2; decide
      · cases hx
  · cases hx
theorem oneLE_kind {f : Fm} (h : f.Good) (i : Nat) : (i + 2 = 3 + f.ack.length → oneLE f i = [⟨2, f, 0⟩]) ∧ (i + 2 ≠ 3 + f.ack.length → ∀ x ∈ oneLE f i, x.kind ≠ 2) := by
  have hl := ack_long h
  constructor
  · intro e
    unfold oneLE hrE
    rw [if_neg (by omega), if_pos (by omega), if_neg (by omega), if_pos (by omega)]
  · intro e x hx
    unfold oneLE hrE at hx
    split at hx; · cases hx
    split at hx
    · split at hx
      · obtain rfl := List.mem_singleton.1 hx; decide
      · split at hx
        · omega
        · cases hx
    · cases hx
theorem cnt2_none {L : List Ev} (h : ∀ x ∈ L, x.kind ≠ 2) : cnt2 L = 0 := by
  unfold cnt2
  rw [List.length_eq_zero_iff, List.filter_eq_nil_iff]
  intro x hx
  simpa using h x hx
theorem allE_cnt {k s : Nat} {f : Fm} (hf : f.Good) (hs : s < k) (i : Nat) : cnt2 (allE k s f i) = if i + 2 = 3 + f.ack.length then k - 1 else 0 := by
  obtain ⟨h1, h2⟩ := oneLE_kind hf i
  have key : ∀ q, cnt2 ((List.range q).flatMap (fun j => if j = s then oneSE f i else oneLE f i)) = if i + 2 = 3 + f.ack.length then q - (if s < q then 1 else 0) else 0 := by
    intro q
    induction q with
    | zero => simp [cnt2]
    | succ q ih =>
      rw [List.range_succ, List.flatMap_append, cnt2_app, ih]
      simp only [List.flatMap_cons, List.flatMap_nil, List.append_nil]
      by_cases hi : i + 2 = 3 + f.ack.length
      · rw [if_pos hi, if_pos hi]
        by_cases hq : q = s
        · rw [if_pos hq, cnt2_none (oneSE_kind i), if_neg (by omega), if_pos (by omega)]
          omega
        · rw [if_neg hq, h1 hi]
          show _ + 1 = _
          by_cases hl : s < q
          · rw [if_pos hl, if_pos (by omega)]; omega
          · rw [if_neg hl, if_neg (by omega)]; omega
      · rw [if_neg hi, if_neg hi]
        split
        · rw [cnt2_none (oneSE_kind i)]
        · rw [cnt2_none (h2 hi)]
  have := key k
  rw [if_pos hs] at this
  exact this
theorem allE_f {k s : Nat} {f : Fm} (hf : f.Good) (i : Nat) : ∀ x ∈ allE k s f i, x.kind = 2 → x.f = f := by
  intro x hx hk
  obtain ⟨j, _, hj⟩ := List.mem_flatMap.1 hx
  split at hj
  · exact absurd hk (oneSE_kind i x hj)
  · obtain ⟨h1, h2⟩ := oneLE_kind hf i
    by_cases hi : i + 2 = 3 + f.ack.length
    · rw [h1 hi] at hj
      obtain rfl := List.mem_singleton.1 hj
      rfl
    · exact absurd hk (h2 hi x hj)
theorem allE_len {k s : Nat} {f : Fm} (i : Nat) : (allE k s f i).length ≤ k := by
  have h1 : (oneSE f i).length ≤ 1 := by
    unfold oneSE wiE
    split; · simp
    split
    · split; · simp
      split <;> simp
    · simp
  have h2 : (oneLE f i).length ≤ 1 := by
    unfold oneLE hrE
    split; · simp
    split
    · split; · simp
      split <;> simp
    · simp
  have key : ∀ q, ((List.range q).flatMap (fun j => if j = s then oneSE f i else oneLE f i)).length ≤ q := by
    intro q
    induction q with
    | zero => simp
    | succ q ih =>
      rw [List.range_succ, List.flatMap_append, List.length_append]
      simp only [List.flatMap_cons, List.flatMap_nil, List.append_nil]
      split <;> omega
  exact key k
/-- How many came behind i bits. -/
def gotN (k : Nat) (f : Fm) (i : Nat) : Nat := if i + 1 < 3 + f.ack.length then 0 else k - 1
theorem gotN_step {k s : Nat} {f : Fm} (hf : f.Good) (hs : s < k) (i : Nat) : gotN k f i + cnt2 (allE k s f i) = gotN k f (i + 1) := by
  rw [allE_cnt hf hs]
  unfold gotN
  by_cases h1 : i + 2 = 3 + f.ack.length
  · rw [if_pos h1, if_pos (by omega), if_neg (by omega)]; omega
  · rw [if_neg h1]
    by_cases h2 : i + 1 < 3 + f.ack.length
    · rw [if_pos h2, if_pos (by omega)]
    · rw [if_neg h2, if_neg (by omega)]; rfl
theorem w64_nat (n : Nat) (h : n ≤ 100000) : wrap64 (n : Int) = (n : Int) := by unfold wrap64; omega
/-- One of a row of events. -/
structure Ec (W : World) (q j : Nat) (x : Ev) : Prop where
  x0 : W.cell? ⟨q, j * 6, none⟩ = some (.int .i64 x.kind)
  x1 : W.cell? ⟨q, j * 6 + 1, none⟩ = some (.bool x.f.e)
  x2 : W.cell? ⟨q, j * 6 + 1 + 1, none⟩ = some (.int .u32 x.f.i)
  x3 : W.cell? ⟨q, j * 6 + 1 + 2, none⟩ = some (.bool x.f.r)
  x4 : W.cell? ⟨q, j * 6 + 1 + 3, none⟩ = some (.string x.f.d)
theorem evs_at {W : World} {b n cap : Nat} {a : Option Addr} {L : List Ev} (h : Evs W b (.slice a n cap) L) {j : Nat} {x : Ev} (hx : L[j]? = some x) : ∃ q, a = some ⟨q, 0, none⟩ ∧ Ec W q j x := by
  obtain ⟨a', cap', e, hc⟩ := evs_slice h
  injection e with e1 e2 e3
  subst e1
  obtain ⟨q, rfl, _⟩ := hc (j * 6 + 0) _ (ec_at hx 0 (by decide))
  have get : ∀ i u, i < 6 → (ec x)[i]? = some u → W.cell? ⟨q, j * 6 + i, none⟩ = some u := by
    intro i u hi hu
    obtain ⟨q', e, _, hh⟩ := hc (j * 6 + i) u ((ec_at hx i hi).trans hu)
    injection e with e
    injection e with e
    subst e
    exact hh
  exact ⟨q, rfl, get 0 _ (by decide) rfl, get 1 _ (by decide) rfl, get 2 _ (by decide) rfl, get 3 _ (by decide) rfl, get 4 _ (by decide) rfl⟩
/-- A wire, a row of events beside it. -/
structure WE (w W : World) (B g : Nat) (ps : List (Nat × Fm)) (c : Gc) (a : Option Addr) (n cap : Nat) (L : List Ev) : Prop where
  wb : WB w W B g ps c
  ev : ∃ b, Evs W b (.slice a n cap) L
theorem WE.drew {w W : World} {B g : Nat} {ps : List (Nat × Fm)} {c : Gc} {a : Option Addr} {n cap : Nat} {L : List Ev} (h : WE w W B g ps c a n cap L) : WE w W.drew B g ps c a n cap L := by
  obtain ⟨b, hb⟩ := h.ev
  exact ⟨h.wb.drew, b, evs_below hb (Below.refl _ W).drew⟩
theorem WE.at {w W : World} {B g : Nat} {ps : List (Nat × Fm)} {c : Gc} {a : Option Addr} {n cap : Nat} {L : List Ev} (h : WE w W B g ps c a n cap L) {j : Nat} {x : Ev} (hx : L[j]? = some x) : ∃ q, a = some ⟨q, 0, none⟩ ∧ Ec W q j x := by
  obtain ⟨b, hb⟩ := h.ev
  exact evs_at hb hx
set_option maxRecDepth 100000 in
set_option maxHeartbeats 6400000 in
theorem all_calls (n who : Int) (f : Fm) (w : World) (hf : f.wf) (hn : 0 ≤ n ∧ n < 256) (hw : 0 ≤ who ∧ who < 256) : Calls Try.prog 3 #[.int .u8 n, .int .u8 who, .agg #[.bool f.e, .int .u32 f.i, .bool f.r, .string f.d]] w fun e w' => e = .returned (.bool true) ∧ Below w.heap.size w w' := by
  obtain ⟨f0, f1, f2, f3⟩ := f
  have HW := hid hf
  have hB := (Below.refl w.heap.size w).alloc (Nat.le_refl _) (.cells #[.bool f0, .int .u32 f1, .bool f2, .string f3] 24)
  have hb0 : Blk (w.alloc (.cells #[.bool f0, .int .u32 f1, .bool f2, .string f3] 24)) w.heap.size 24 (fc ⟨f0, f1, f2, f3⟩) := Blk.new w (fc ⟨f0, f1, f2, f3⟩) _
  have HB := hid hB
  have HX := hid hb0
  clear hB hb0 hf
  simp only
  go_enter Try.func3, Try.ntmps3
  go_wp2_with fail
  with_reducible refine (known_calls _).mono ?_
  rintro y w1 ⟨rfl, hb⟩
  have HX1 := hid (HX.out.below hb)
  have HB1 := hid (HB.out.trans (hb.mono HB.out.size))
  clear hb HX HB
  obtain ⟨x0, x1, x2, x3⟩ := box_fr HX1.out
  simp only at x0 x1 x2 x3
  by_cases h8 : 8 < f3.size
  · have u0 : (8 < (f3.size : Int)) = True := eq_true (by omega)
    have u1 : decide (8 < (f3.size : Int)) = true := decide_eq_true (by omega)
    have u2 : (8 < f3.size) = True := eq_true h8
    clear h8
    go_wp2_with fail
    go_ret
    exact ⟨rfl, HB1.out⟩
  · have u0 : (8 < (f3.size : Int)) = False := eq_false (by omega)
    have u1 : decide (8 < (f3.size : Int)) = false := decide_eq_false (by omega)
    have u2 : (8 < f3.size) = False := eq_false h8
    clear h8
    go_wp2_with fail
    refine (ris_calls f0 f1 f2 f3 w1).mono ?_
    rintro y w2 ⟨rfl, hb⟩
    have HX2 := hid (HX1.out.below hb)
    have HB2 := hid (HB1.out.trans (hb.mono HB1.out.size))
    clear hb HX1 HB1 x0 x1 x2 x3
    obtain ⟨x0, x1, x2, x3⟩ := box_fr HX2.out
    simp only at x0 x1 x2 x3
    cases hok : okF f0 f1 f2 f3
    · go_wp2_with fail
      go_ret
      exact ⟨rfl, HB2.out⟩
    · have HG := hid (show Fm.Good ⟨f0, f1, f2, f3⟩ from ⟨hok, HW.out⟩)
      clear hok
      go_wp2_with fail
      obtain ⟨k, hk, hk2, hk8⟩ : ∃ k : Nat, n % 7 + 2 = (k : Int) ∧ 2 ≤ k ∧ k ≤ 8 := ⟨(n % 7 + 2).toNat, by omega, by omega, by omega⟩
      obtain ⟨s, hs, hsk⟩ : ∃ s : Nat, who % (k : Int) = (s : Int) ∧ s < k := ⟨(who % (k : Int)).toNat, by have := Int.emod_nonneg who (b := (k : Int)) (by omega); omega, by have := Int.emod_nonneg who (b := (k : Int)) (by omega); have := Int.emod_lt_of_pos who (b := (k : Int)) (by omega); omega⟩
      have hs2 : who.tmod (k : Int) = (s : Int) := by rw [Int.tmod_eq_emod_of_nonneg hw.1]; exact hs
      have HK := hid (show 2 ≤ k ∧ k ≤ 8 from ⟨hk2, hk8⟩)
      have HSK := hid hsk
      have hk0 : ((k : Int) = 0) = False := eq_false (by omega)
      have hk1 : (k = 0) = False := eq_false (by omega)
      have hko : kOf (k : Int) = k := by unfold kOf; split <;> split <;> omega
      rw [hk]
      generalize n % 7 = n7
      clear hk
      refine (wb_new (ps := [(w.heap.size, ⟨f0, f1, f2, f3⟩)]) (k : Int) HB2.out (fun x hx => by obtain rfl := List.mem_singleton.1 hx; exact HX2.out)).mono ?_
      rintro y w3 ⟨g, rfl, h3⟩
      rw [hko] at h3
      have H3 := hid h3
      have HBS := hid (show w.heap.size ≤ w2.heap.size from HB2.out.size)
      generalize w2.heap.size = B at H3 HBS
      clear h3 HX2 HB2 x0 x1 x2 x3 hko hsk hk2 hk8
      obtain ⟨x0, x1, x2, x3⟩ := WB.fr H3.out
      simp only at x0 x1 x2 x3
      generalize w.heap.size = p at H3 x0 x1 x2 x3 ⊢
      go_wp2_with fail
      obtain ⟨o1, o2⟩ := one_start (k := k) (s := s) HG.out HSK.out
      have HO1 := hid o1
      have HO2 := hid o2
      clear o1 o2
      refine (wb_ask H3.out s HSK.out ⟨f0, f1, f2, f3⟩ HW.out).mono ?_
      rintro y w4 ⟨rfl, h4⟩
      rw [HO2.out]
      have H4 := hid h4
      clear h4 H3 HO2 x0 x1 x2 x3
      go_wp2_with fail
      go_loopw [11, 10] (fun i gt wr => ∃ (j : Nat) (c : Gc), j ≤ 200 ∧ i = .int .i64 j ∧ gt = .int .i64 (gotN k ⟨f0, f1, f2, f3⟩ j) ∧ WB w wr B g [(p, ⟨f0, f1, f2, f3⟩)] c ∧ One k s ⟨f0, f1, f2, f3⟩ j c) (fun i _ _ => 200 - (intOf i).toNat)
      case atStart =>
        refine ⟨0, _, Nat.zero_le _, rfl, ?_, H4.out, HO1.out⟩
        have hl := ack_long HG.out
        unfold gotN
        rw [if_pos (by omega)]
        rfl
      case round =>
        clear H4 HO1
        obtain ⟨i, c, hi, rfl, rfl, hb, ho⟩ := hrel
        have H6 := hid hb
        have HO := hid ho
        clear hb ho
        by_cases hlt : i < 200
        · have u0 : ((i : Int) < 200) = True := eq_true (by omega)
          have u1 : decide ((i : Int) < 200) = true := decide_eq_true (by omega)
          have u2 : IntKind.i64.wrap ((i : Int) + 1) = ((i + 1 : Nat) : Int) := by rw [IntKind.wrap_i64]; omega
          have u3 : (i < 200) = True := eq_true hlt
          obtain ⟨o7, oe⟩ := HO.out.step HG.out HSK.out HK.out.1
          have HO7 := hid o7
          clear o7
          go_wp2_with fail
          with_reducible refine (wb_step H6.out false (by rw [HO.out.bn]; omega)).mono ?_
          rintro y w7 ⟨v, rfl, h7, h8⟩
          rw [oe] at h8
          have h8 : Evs w7 wr.heap.size v (allE k s ⟨f0, f1, f2, f3⟩ i) := h8
          have hln := allE_len (k := k) (s := s) (f := ⟨f0, f1, f2, f3⟩) i
          have hgs := gotN_step HG.out HSK.out i
          have hcn := allE_cnt HG.out HSK.out i
          have hff := allE_f (k := k) (s := s) HG.out i
          generalize allE k s ⟨f0, f1, f2, f3⟩ i = L at h8 hln hgs hcn hff
          obtain ⟨av, cap, rfl, _⟩ := evs_slice h8
          have H7 := hid (show WE w w7 B g [(p, ⟨f0, f1, f2, f3⟩)] (c.step false) av L.length cap L from ⟨h7, _, h8⟩)
          have HLN := hid hln
          have HGS := hid hgs
          have HCN := hid hcn
          have HFF := hid hff
          clear h7 h8 hln hgs hcn hff oe H6 HO
          generalize c.step false = c7 at H7 HO7
          go_wp2_with fail
          go_loopw [14, 13] (fun i n wr => ∃ j : Nat, j ≤ L.length ∧ i = .int .i64 j ∧ n = .int .i64 (cnt2 (L.take j)) ∧ WE w wr B g [(p, ⟨f0, f1, f2, f3⟩)] c7 av L.length cap L) (fun i _ _ => L.length - (intOf i).toNat)
          case atStart => exact ⟨0, Nat.zero_le _, rfl, rfl, H7.out⟩
          case round =>
            clear H7
            obtain ⟨j, hj, rfl, rfl, hb⟩ := hrel
            have H8 := hid hb
            clear hb
            by_cases hjt : j < L.length
            · have t0 : ((j : Int) < L.length) = True := eq_true (by omega)
              have t1 : decide ((j : Int) < L.length) = true := decide_eq_true (by omega)
              have t2 : IntKind.i64.wrap ((j : Int) + 1) = ((j + 1 : Nat) : Int) := by have := HLN.out; have := HK.out; rw [IntKind.wrap_i64]; omega
              have t3 : (j < L.length) = True := eq_true hjt
              obtain ⟨x, hx⟩ : ∃ x, L[j]? = some x := ⟨_, List.getElem?_eq_getElem hjt⟩
              obtain ⟨q, rfl, hec⟩ := H8.out.at hx
              have y0 := hec.x0
              have hct := cnt2_take L hx
              have hcl : cnt2 (L.take j) ≤ 8 := Nat.le_trans (cnt2_le _) (by rw [List.length_take]; have := HLN.out; have := HK.out; omega)
              by_cases hk : x.kind = 2
              · rw [if_pos hk] at hct
                have hxf := HFF.out x (List.mem_of_getElem? hx) hk
                have t4 : IntKind.i64.wrap ((cnt2 (L.take j) : Int) + 1) = (cnt2 (L.take (j + 1)) : Int) := by rw [IntKind.wrap_i64]; omega
                rw [hk] at y0
                have HCT := hid hct
                have HX := hid hx
                have HXF := hid hxf
                clear hct hk hx hxf hec hcl
                go_wp2_with fail
                refine region_text (by kernel_rfl) (by kernel_rfl) (fun _ _ W => WE w W B g [(p, ⟨f0, f1, f2, f3⟩)] c7 (some ⟨q, 0, none⟩) L.length cap L) H8.out.drew ?_
                clear H8 y0
                iterate 7 ((try simp only [Act.put, List.setIfInBounds_toArray, List.set_cons_zero, List.set_cons_succ]); (refine t_pure ?_ (fun _ => rfl) (fun b γ W h => h) (fun b γ W h _ => ?_) ?_; rotate_left; · (obtain ⟨q', eq', e0, e1, e2, e3, e4⟩ := h.at HX.out; injection eq' with eq'; injection eq' with eq'; subst eq'; rw [HXF.out] at e1 e2 e3 e4; obtain ⟨x0, x1, x2, x3⟩ := WB.fr h.wb; simp only at e1 e2 e3 e4 x0 x1 x2 x3; clear e0 h; go_simp; rfl)))
                refine t_end ?_
                intro bq gq w8 hall hS
                clear hall
                (try simp only [Act.put, List.setIfInBounds_toArray, List.set_cons_zero, List.set_cons_succ])
                have H9 := hid hS
                clear hS
                go_wp2_with fail
                exact ⟨⟨j + 1, by omega, rfl, by rw [HCT.out], H9.out⟩, by simp [intOf]; omega⟩
              · rw [if_neg hk] at hct
                have t4 : (x.kind == 2) = false := by simp [hk]
                have t5 : (x.kind = 2) = False := eq_false hk
                have HCT := hid (show cnt2 (L.take j) = cnt2 (L.take (j + 1)) by omega)
                clear hct hk hx hec hcl
                go_wp2_with fail
                exact ⟨⟨j + 1, by omega, rfl, by rw [HCT.out], H8.out⟩, by simp [intOf]; omega⟩
            · obtain rfl : j = L.length := by omega
              rw [List.take_length]
              obtain ⟨m, hm⟩ : ∃ m, m = cnt2 L := ⟨_, rfl⟩
              have hgs := HGS.out
              have hcn := HCN.out
              have hk := HK.out
              rw [← hm] at hgs hcn ⊢
              have t6 : IntKind.i64.wrap ((gotN k ⟨f0, f1, f2, f3⟩ i : Int) + (m : Int)) = (gotN k ⟨f0, f1, f2, f3⟩ (i + 1) : Int) := by
                have : gotN k ⟨f0, f1, f2, f3⟩ (i + 1) ≤ k := by unfold gotN; split <;> omega
                rw [IntKind.wrap_i64]; omega
              have t7 : IntKind.i64.wrap ((k : Int) - 1) = (k : Int) - 1 := by rw [IntKind.wrap_i64]; omega
              have HM := hid hm
              clear hgs hm HCN
              by_cases hz : i + 2 = 3 + (Fm.ack ⟨f0, f1, f2, f3⟩).length
              · rw [if_pos hz] at hcn
                have t8 : ((m : Int) = 0) = False := eq_false (by omega)
                have t9 : ((m : Int) != 0) = true := by simp; omega
                have t10 : (m = 0) = False := eq_false (by omega)
                have t11 : ((m : Int) = (k : Int) - 1) = True := eq_true (by omega)
                have t12 : ((m : Int) != (k : Int) - 1) = false := by simp; omega
                have t13 : ((m : Int) == (k : Int) - 1) = true := by simp; omega
                have t14 : ((m : Int) == 0) = false := by simp; omega
                clear hcn hk hz
                go_wp2_with fail
                exact ⟨⟨i + 1, c7, by omega, rfl, rfl, H8.out.wb, HO7.out⟩, by simp [intOf]; omega⟩
              · rw [if_neg hz] at hcn
                subst hcn
                have t15 : wrap64 (gotN k ⟨f0, f1, f2, f3⟩ i : Int) = (gotN k ⟨f0, f1, f2, f3⟩ (i + 1) : Int) := by
                  have q1 := HGS.out
                  have q2 := HM.out
                  rw [← q2, Nat.add_zero] at q1
                  rw [← q1]
                  exact w64_nat _ (by unfold gotN; split <;> omega)
                clear hk hz
                go_wp2_with fail
                exact ⟨⟨i + 1, c7, by omega, rfl, by rw [t15], H8.out.wb, HO7.out⟩, by simp [intOf]; omega⟩
        · obtain rfl : i = 200 := by omega
          have hl := ack_short HG.out
          have hk := HK.out
          have eg : gotN k ⟨f0, f1, f2, f3⟩ 200 = k - 1 := by unfold gotN; rw [if_neg (by omega)]
          have eh : c.hs s = [⟨6, Fm.zero, 0⟩, ⟨1, ⟨f0, f1, f2, f3⟩, 0⟩] := by
            rw [HO.out.hs s HSK.out, if_pos rfl]
            unfold hearS
            rw [if_neg (by decide), if_neg (by omega)]
          rw [eg]
          have EH := hid eh
          have t7 : IntKind.i64.wrap ((k : Int) - 1) = (k : Int) - 1 := by rw [IntKind.wrap_i64]; omega
          have t8 : (((k - 1 : Nat) : Int) = (k : Int) - 1) = True := eq_true (by omega)
          have t9 : (((k - 1 : Nat) : Int) == (k : Int) - 1) = true := by simp; omega
          clear hl hk eg eh
          go_wp2_with fail
          refine (wb_heard H6.out s (by rw [HO.out.n]; exact HSK.out)).mono ?_
          rintro y w7 ⟨v, rfl, h7, _, h7'⟩
          rw [EH.out] at h7
          obtain ⟨q1, cap1, rfl, hq1⟩ := evs_el h7
          have H7 := hid h7'
          have y6 := hq1.get 6 _ rfl
          clear h7 h7' H6 hq1
          go_wp2_with fail
          go_ret
          exact ⟨rfl, H7.out.below⟩
theorem all_walk (n who : Int) (e : Bool) (i : Int) (r : Bool) (d : ByteArray) (w : World) (h1 : (Lit.int .u8 n).wf = true) (h2 : (Lit.int .u8 who).wf = true) (h : (Lit.int .u32 i).wf = true) (_ : d.size ≤ 9223372036854775807) :
    Calls Try.prog 3 #[.int .u8 n, .int .u8 who, .agg #[.bool e, .int .u32 i, .bool r, .string d]] w fun e w' => e = .returned (.bool true) ∧ Below w.heap.size w w' := by
  simp [Lit.wf, IntKind.min, IntKind.max, IntKind.signed, IntKind.bits] at h h1 h2
  exact all_calls n who ⟨e, i, r, d⟩ w (by show 0 ≤ i ∧ i < 4294967296; omega) (by omega) (by omega)
end Go.Proofs.Ytpkpnaedacefaaa.WireL
