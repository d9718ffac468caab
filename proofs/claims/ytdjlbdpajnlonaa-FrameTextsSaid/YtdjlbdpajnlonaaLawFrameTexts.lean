/- FrameTexts (layer 3): unlike frames have unlike texts. Conditions: none beyond the types of the arguments; what is no frame is let pass. -/
import Derived.Test.YtdjlbdpajnlonaaLawFrameOrder
namespace Go.Proofs.Ytdjlbdpajnlonaa.FrameL
set_option linter.unusedVariables false
set_option linter.unusedSimpArgs false
open Go Go.RowKit Go.Proofs.Ytdjlbdpajnlonaa.Lib Go.Proofs.Ytdjlbdpajnlonaa.Bits Go.Proofs.Ytdjlbdpajnlonaa.BitsW Go.Proofs.Ytdjlbdpajnlonaa.Frame Go.Proofs.Ytdjlbdpajnlonaa.FrameW Go.Proofs.YtdjlbdpajnlonaaW.PrintMore
attribute [local go_sem] max2_int min2_int max_two min_two
attribute [local go_sem high] QFr.eqA24

theorem hexd_inj : ∀ a b : Fin 16, hexd a.1 = hexd b.1 → a = b := by decide
theorem hexd_ne : ∀ a : Fin 16, hexd a.1 ≠ 35 := by decide
theorem hexL_mod : ∀ (k n m : Nat), hexL n k = hexL m k → n % 16 ^ k = m % 16 ^ k
  | 0, n, m, _ => by simp [Nat.mod_one]
  | k + 1, n, m, h => by
    simp only [hexL, List.cons.injEq] at h
    have h1 := hexd_inj ⟨n / 16 ^ k % 16, by omega⟩ ⟨m / 16 ^ k % 16, by omega⟩ h.1
    have h2 := hexL_mod k n m h.2
    rw [Nat.mod_pow_succ, Nat.mod_pow_succ, h2, Fin.mk.inj h1]
theorem hexL_inj {n m k : Nat} (hn : n < 16 ^ k) (hm : m < 16 ^ k) (h : hexL n k = hexL m k) : n = m := by
  have := hexL_mod k n m h
  rwa [Nat.mod_eq_of_lt hn, Nat.mod_eq_of_lt hm] at this
theorem hexL_ne (n : Nat) : ∀ k : Nat, ∀ x ∈ hexL n k, x ≠ 35
  | 0, x, h => by simp [hexL] at h
  | k + 1, x, h => by
    simp only [hexL, List.mem_cons] at h
    rcases h with rfl | h
    · exact hexd_ne ⟨n / 16 ^ k % 16, by omega⟩
    · exact hexL_ne n k x h
theorem pairs_length (d : List UInt8) : (d.flatMap (fun c => hexL c.toNat 2)).length = 2 * d.length := by
  induction d with
  | nil => rfl
  | cons c d ih => rw [List.flatMap_cons, List.length_append, hexL_length, ih, List.length_cons]; omega
theorem pairs_inj : ∀ d d' : List UInt8, d.flatMap (fun c => hexL c.toNat 2) = d'.flatMap (fun c => hexL c.toNat 2) → d = d'
  | [], [], _ => rfl
  | [], c :: d, h => by have := congrArg List.length h; rw [pairs_length, pairs_length] at this; simp at this
  | c :: d, [], h => by have := congrArg List.length h; rw [pairs_length, pairs_length] at this; simp at this
  | c :: d, c' :: d', h => by
    rw [List.flatMap_cons, List.flatMap_cons] at h
    obtain ⟨h1, h2⟩ := List.append_inj h (by rw [hexL_length, hexL_length])
    have hc := UInt8.toNat_lt c
    have hc' := UInt8.toNat_lt c'
    have e1 := hexL_inj (k := 2) (by omega) (by omega) h1
    rw [UInt8.toNat_inj.1 e1, pairs_inj d d' h2]
theorem text_place (e : Bool) (n : Nat) (r : Bool) (d : List UInt8) : (textL e n r d)[if e then 8 else 3]? = some 35 := by
  unfold textL
  rw [List.getElem?_append_right (by rw [hexL_length]; exact Nat.le_refl _), hexL_length, Nat.sub_self]
  rfl
theorem text_len (e : Bool) (n : Nat) (r : Bool) (d : List UInt8) (h : r = true → d = []) : (textL e n r d).length = (if e then 8 else 3) + 1 + 2 * d.length + if r then 1 else 0 := by
  unfold textL
  rw [List.length_append, List.length_cons, hexL_length]
  cases r
  · simp only [Bool.false_eq_true, if_false]; rw [pairs_length]; clear h; omega
  · rw [h rfl]; simp
theorem text_ext (n n' : Nat) (r r' : Bool) (d d' : List UInt8) (h : textL false n r d = textL true n' r' d') : False := by
  have h1 := text_place false n r d
  rw [h] at h1
  unfold textL at h1
  simp only [Bool.false_eq_true, if_false, if_true] at h1
  rw [List.getElem?_append_left (by rw [hexL_length]; omega)] at h1
  exact hexL_ne _ _ _ (List.mem_of_getElem? h1) rfl
theorem text_inj {e : Bool} {n : Nat} {r : Bool} {d : List UInt8} {e' : Bool} {n' : Nat} {r' : Bool} {d' : List UInt8} (hn : n < if e then 536870912 else 2048) (hn' : n' < if e' then 536870912 else 2048)
    (hr : r = true → d = []) (hr' : r' = true → d' = []) (h : textL e n r d = textL e' n' r' d') : e = e' ∧ n = n' ∧ r = r' ∧ d = d' := by
  have he : e = e' := by
    cases e <;> cases e'
    · rfl
    · exact (text_ext _ _ _ _ _ _ h).elim
    · exact (text_ext _ _ _ _ _ _ h.symm).elim
    · rfl
  subst he
  unfold textL at h
  obtain ⟨h1, h2⟩ := List.append_inj h (by rw [hexL_length, hexL_length])
  have e1 : n = n' := by
    cases e
    · simp at hn hn'
      exact hexL_inj (k := 3) (by omega) (by omega) h1
    · simp at hn hn'
      exact hexL_inj (k := 8) (by omega) (by omega) h1
  have h3 := (List.cons.inj h2).2
  have hl := congrArg List.length h3
  clear h h1 h2 hn hn'
  cases r <;> cases r' <;> simp only [Bool.false_eq_true, if_false, if_true, pairs_length, List.length_cons, List.length_nil] at hl h3
  · exact ⟨rfl, e1, rfl, pairs_inj _ _ h3⟩
  · clear hr hr'; omega
  · clear hr hr'; omega
  · exact ⟨rfl, e1, rfl, by rw [hr rfl, hr' rfl]⟩
theorem textF_ok {e : Bool} {i : Int} {r : Bool} {d : ByteArray} (h : okF e i r d = true) : textF e i r d = ⟨(textL e i.toNat r d.data.toList).toArray⟩ := by unfold textF; rw [if_pos h]
theorem ok_empty {e : Bool} {i : Int} {r : Bool} {d : ByteArray} (h : okF e i r d = true) : r = true → d.data.toList = [] := by
  intro hr
  subst hr
  unfold okF at h
  simp at h
  rw [h.2]
  rfl
/-- What is known of two frames' texts. -/
theorem text_facts {e : Bool} {i : Int} {r : Bool} {d : ByteArray} (hk : okF e i r d = true) :
    ∃ S : ByteArray, textF e i r d = S ∧ (S.size : Int) = (if e then 8 else 3) + 1 + 2 * (d.size : Int) + (if r then 1 else 0) ∧ ∃ hl : (if e then 8 else 3) < S.size, ((S[(if e then 8 else 3 : Nat)]'hl).toNat : Int) = 35 := by
  have hl := text_len e i.toNat r d.data.toList (ok_empty hk)
  have hp := text_place e i.toNat r d.data.toList
  have hs := size_list d
  rw [textF_ok hk]
  obtain ⟨h1, h2⟩ := List.getElem?_eq_some_iff.1 hp
  refine ⟨_, rfl, ?_, h1, ?_⟩
  · show (((textL e i.toNat r d.data.toList).length : Nat) : Int) = _
    rw [hl]
    cases e <;> cases r <;> simp <;> omega
  · show (((textL e i.toNat r d.data.toList)[(if e then 8 else 3 : Nat)]'h1).toNat : Int) = 35
    rw [h2]
    rfl
theorem text_apart {e : Bool} {i : Int} {r : Bool} {d : ByteArray} {e' : Bool} {i' : Int} {r' : Bool} {d' : ByteArray} (k1 : okF e i r d = true) (k2 : okF e' i' r' d' = true) (b1 : 0 ≤ i ∧ i < 4294967296) (b2 : 0 ≤ i' ∧ i' < 4294967296) :
    ((textF e i r d).toList == (textF e' i' r' d').toList) = (e == e' && (i == i' && (r == r' && (d.toList == d'.toList)))) := by
  rw [Bool.eq_iff_iff, textF_ok k1, textF_ok k2]
  simp only [Go.ByteArray.toList_eq, beq_iff_eq, Bool.and_eq_true]
  constructor
  · intro h
    obtain ⟨h1, h2, h3, h4⟩ := text_inj (ok_lt k1 b1) (ok_lt k2 b2) (ok_empty k1) (ok_empty k2) h
    exact ⟨h1, by omega, h3, h4⟩
  · rintro ⟨rfl, rfl, rfl, h⟩
    rw [h]
/-- Two frames in memory. -/
structure Two (w0 w : World) (g1 g2 : Nat) (e1 : Bool) (i1 : Int) (r1 : Bool) (d1 : ByteArray) (e2 : Bool) (i2 : Int) (r2 : Bool) (d2 : ByteArray) : Prop where
  fst : Blk w g1 24 [.bool e1, .int .u32 i1, .bool r1, .string d1]
  snd : Blk w g2 24 [.bool e2, .int .u32 i2, .bool r2, .string d2]
  below : Below w0.heap.size w0 w
theorem Two.later {w0 w w' : World} {g1 g2 : Nat} {e1 : Bool} {i1 : Int} {r1 : Bool} {d1 : ByteArray} {e2 : Bool} {i2 : Int} {r2 : Bool} {d2 : ByteArray}
    (h : Two w0 w g1 g2 e1 i1 r1 d1 e2 i2 r2 d2) (hb : Below w.heap.size w w') : Two w0 w' g1 g2 e1 i1 r1 d1 e2 i2 r2 d2 :=
  ⟨h.fst.below hb, h.snd.below hb, h.below.trans (hb.mono h.below.size)⟩
theorem Two.make (w : World) (e1 : Bool) (i1 : Int) (r1 : Bool) (d1 : ByteArray) (e2 : Bool) (i2 : Int) (r2 : Bool) (d2 : ByteArray) :
    Two w ((w.alloc (.cells #[.bool e1, .int .u32 i1, .bool r1, .string d1] 24)).alloc (.cells #[.bool e2, .int .u32 i2, .bool r2, .string d2] 24))
      w.heap.size (w.heap.size + 1) e1 i1 r1 d1 e2 i2 r2 d2 := by
  have s1 : (w.alloc (.cells #[.bool e1, .int .u32 i1, .bool r1, .string d1] 24)).heap.size = w.heap.size + 1 := by simp
  refine ⟨(Blk.new w _ _).alloc _, ?_, ((Below.refl _ _).alloc (Nat.le_refl _) _).alloc (by simp) _⟩
  have := Blk.new (w.alloc (.cells #[.bool e1, .int .u32 i1, .bool r1, .string d1] 24)) [.bool e2, .int .u32 i2, .bool r2, .string d2] 24
  rw [s1] at this
  exact this
theorem Plug_text (e : Bool) (i : Int) (r : Bool) (d : ByteArray) (b : 0 ≤ i ∧ i < 4294967296) (w : World) :
    Calls Try.prog 19 #[.agg #[.bool e, .int .u32 i, .bool r, .string d]] w fun y w' => y = .returned (.string (textF e i r d)) ∧ Below w.heap.size w w' :=
  Plug.frame_Text.calls e i r d _ w (by unfold Plug.frame_Text.f; rw [if_pos b])
theorem same_cases (e1 : Bool) (i1 : Int) (r1 : Bool) (d1 : ByteArray) (e2 : Bool) (i2 : Int) (r2 : Bool) (d2 : ByteArray) :
    (e1 = e2 ∧ i1 = i2 ∧ r1 = r2 ∧ d1 = d2) ∨ e2 = !e1 ∨ (e1 = e2 ∧ (i1 == i2) = false) ∨ (e1 = e2 ∧ i1 = i2 ∧ r2 = !r1) ∨ (e1 = e2 ∧ i1 = i2 ∧ r1 = r2 ∧ (d1.toList == d2.toList) = false) := by
  have hb : ∀ a b : Bool, a = b ∨ b = !a := by decide
  rcases hb e1 e2 with h | h
  · by_cases hi : i1 = i2
    · rcases hb r1 r2 with hr | hr
      · by_cases hd : d1 = d2
        · exact .inl ⟨h, hi, hr, hd⟩
        · refine .inr (.inr (.inr (.inr ⟨h, hi, hr, ?_⟩)))
          rw [beq_eq_false_iff_ne]
          intro hc
          rw [Go.ByteArray.toList_eq, Go.ByteArray.toList_eq] at hc
          exact hd (ByteArray.ext (Array.toList_inj.1 hc))
      · exact .inr (.inr (.inr (.inl ⟨h, hi, hr⟩)))
    · exact .inr (.inr (.inl ⟨h, beq_eq_false_iff_ne.2 hi⟩))
  · exact .inr (.inl h)
set_option maxRecDepth 100000 in
set_option maxHeartbeats 6400000 in
theorem texts_calls (e1 : Bool) (i1 : Int) (r1 : Bool) (d1 : ByteArray) (e2 : Bool) (i2 : Int) (r2 : Bool) (d2 : ByteArray) (w : World) (b1 : 0 ≤ i1 ∧ i1 < 4294967296) (b2 : 0 ≤ i2 ∧ i2 < 4294967296) :
    Calls Try.prog 10 #[.agg #[.bool e1, .int .u32 i1, .bool r1, .string d1], .agg #[.bool e2, .int .u32 i2, .bool r2, .string d2]] w fun e w' => e = .returned (.bool true) ∧ Below w.heap.size w w' := by
  have HF := Two.make w e1 i1 r1 d1 e2 i2 r2 d2
  have HB1 := hid b1
  have HB2 := hid b2
  clear b1 b2
  go_enter Try.func10, Try.ntmps10
  go_wp2_with fail
  refine (known_calls _).mono ?_
  rintro x w1 ⟨rfl, hb⟩
  have HF := HF.later hb
  clear hb
  generalize hg : w.heap.size = g at *
  have HG := hid hg
  clear hg
  obtain ⟨x0, x1, x2, x3⟩ := frame_res HF.fst
  obtain ⟨y0, y1, y2, y3⟩ := frame_res HF.snd
  go_wp2_with (first
    | (go_at_call 12; with_reducible refine (few_calls _ _ _ _ _).mono ?_; rintro x w2 ⟨rfl, hb⟩; have HF' := HF.later hb; clear HF hb x0 x1 x2 x3 y0 y1 y2 y3; have HF := HF'; clear HF'; obtain ⟨x0, x1, x2, x3⟩ := frame_res HF.fst; obtain ⟨y0, y1, y2, y3⟩ := frame_res HF.snd)
    | (go_at_call 13; with_reducible refine (frame_is _ _ _ _ _).mono ?_; rintro x w2 ⟨rfl, hb⟩; have HF' := HF.later hb; clear HF hb x0 x1 x2 x3 y0 y1 y2 y3; have HF := HF'; clear HF'; obtain ⟨x0, x1, x2, x3⟩ := frame_res HF.fst; obtain ⟨y0, y1, y2, y3⟩ := frame_res HF.snd))
  all_goals try (go_ret; exact ⟨rfl, HF.below⟩)
  have k1 : okF e1 i1 r1 d1 = true := by assumption
  have k2' : (!okF e2 i2 r2 d2) = false := by assumption
  have k2 : okF e2 i2 r2 d2 = true := by simpa using k2'
  have hap := text_apart k1 k2 HB1.out HB2.out
  have hd8 := FrameEq.okF_size _ _ _ _ k1
  obtain ⟨S, hS, f1, hl, f2⟩ := text_facts k1
  rw [hS] at hap
  have P1 := Plug_text e1 i1 r1 d1 HB1.out
  rw [hS] at P1
  have P2 := Plug_text e2 i2 r2 d2 HB2.out
  generalize textF e2 i2 r2 d2 = S2 at *
  have HP1 := hid P1
  have HP2 := hid P2
  clear P1 P2 k1 k2 k2' hS
  rcases same_cases e1 i1 r1 d1 e2 i2 r2 d2 with ⟨rfl, rfl, rfl, rfl⟩ | rfl | ⟨rfl, hne⟩ | ⟨rfl, rfl, rfl⟩ | ⟨rfl, rfl, rfl, hne⟩
  all_goals try rw [hne] at hap
  all_goals simp only [beq_self_eq_true, Bool.beq_not_self, Bool.and_true, Bool.true_and, Bool.false_and, Bool.and_false] at hap
  all_goals cases e1 <;> cases r1
  all_goals simp only [Bool.false_eq_true, if_false, if_true] at f1 hl f2
  all_goals have u1 : (3 : Int) < 4 + 2 * (d1.size : Int) := by omega
  all_goals have u2 : (3 : Int) < 4 + 2 * (d1.size : Int) + 1 := by omega
  all_goals have u3 : (8 : Int) < 9 + 2 * (d1.size : Int) := by omega
  all_goals have u4 : (8 : Int) < 9 + 2 * (d1.size : Int) + 1 := by omega
  all_goals
    go_wp2_with (go_at_call 19; with_reducible refine (HP1.out _).mono ?_; rintro x w2 ⟨rfl, hb⟩; have HF' := HF.later hb; clear HF hb x0 x1 x2 x3 y0 y1 y2 y3; have HF := HF'; clear HF'; obtain ⟨x0, x1, x2, x3⟩ := frame_res HF.fst; obtain ⟨y0, y1, y2, y3⟩ := frame_res HF.snd)
    refine region_text (by kernel_rfl) (by kernel_rfl) (fun _ _ W => Two w W g (g + 1) _ _ _ _ _ _ _ _) ⟨HF.fst.drew, HF.snd.drew, HF.below.drew⟩ ?_
    clear HF x0 x1 x2 x3 y0 y1 y2 y3
    iterate 21 ((try simp only [Act.put, List.setIfInBounds_toArray, List.set_cons_zero, List.set_cons_succ]); first
      | (refine t_skip (fun _ => rfl) (fun b γ W h => h) ?_)
      | (refine t_call (.string S2) (fun _ => rfl) (f := 19) (args := #[.agg #[.bool _, .int .u32 _, .bool _, .string _]]) ?_ (fun b γ W h _ => (HP2.out W).mono (fun e w2 h2 => ⟨h2.1, h.later h2.2⟩)) ?_; · (intro b γ W h _; go_simp; done))
      | (refine t_pure ?_ (fun _ => rfl) (fun b γ W h => h) (fun b γ W h _ => ?_) ?_; rotate_left; · (obtain ⟨x0, x1, x2, x3⟩ := frame_res h.fst; obtain ⟨y0, y1, y2, y3⟩ := frame_res h.snd; go_simp; rfl)))
    refine t_end ?_
    intro bq gq w5 hall HF
    simp only [Act.put, List.setIfInBounds_toArray, List.set_cons_zero, List.set_cons_succ]
    go_wp2_with fail
    go_ret
    exact ⟨rfl, HF.below⟩
theorem texts_walk (e1 : Bool) (i1 : Int) (r1 : Bool) (d1 : ByteArray) (e2 : Bool) (i2 : Int) (r2 : Bool) (d2 : ByteArray) (w : World) (w1 : (Lit.int .u32 i1).wf = true) (_ : d1.size ≤ 9223372036854775807) (w2 : (Lit.int .u32 i2).wf = true) (_ : d2.size ≤ 9223372036854775807) :
    Calls Try.prog 10 #[.agg #[.bool e1, .int .u32 i1, .bool r1, .string d1], .agg #[.bool e2, .int .u32 i2, .bool r2, .string d2]] w fun e w' => e = .returned (.bool true) ∧ Below w.heap.size w w' :=
  texts_calls e1 i1 r1 d1 e2 i2 r2 d2 w (by have := bounds_u32 w1; omega) (by have := bounds_u32 w2; omega)
end Go.Proofs.Ytdjlbdpajnlonaa.FrameL
