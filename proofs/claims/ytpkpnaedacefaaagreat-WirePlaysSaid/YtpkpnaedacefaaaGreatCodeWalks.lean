/- The walks of package code: a reader in memory. -/
import Derived.Test.YtpkpnaedacefaaaGreatCodeSpec
import Derived.Test.YtpkpnaedacefaaaGreatStuffA
namespace Go.Proofs.YtpkpnaedacefaaaGreat.CodeW
set_option linter.unusedVariables false
set_option linter.unusedSimpArgs false
open Go Go.RowKit Go.Proofs.YtpkpnaedacefaaaGreat.Lib Go.Proofs.YtpkpnaedacefaaaGreat.Bits Go.Proofs.YtpkpnaedacefaaaGreat.BitsW Go.Proofs.YtpkpnaedacefaaaGreat.StuffW Go.Proofs.YtpkpnaedacefaaaGreat.Frame Go.Proofs.YtpkpnaedacefaaaGreat.FrameW Go.Proofs.YtpkpnaedacefaaaGreat.Code Go.Proofs.YtpkpnaedacefaaaGreat.PrintMore
attribute [local go_sem] max2_int min2_int max_two min_two

/-- A reader's cells lie in cs from o on: its two cells of bits alike, its row of bits (arr), n, need, sum, end, laid. -/
def IsRaw (cs : List Value) (o : Nat) (c0 c1 : Value) (arr : List Value) (n need sum en laid : Value) : Prop :=
  arr.length = 128 ∧ ∃ pre post, cs = pre ++ ([c0, c1] ++ (arr ++ ([n, need, sum, en, laid] ++ post))) ∧ pre.length = o
section
variable {cs : List Value} {o : Nat} {c0 c1 : Value} {arr : List Value} {n need sum en laid : Value}
theorem IsRaw.get (h : IsRaw cs o c0 c1 arr n need sum en laid) : cs[o]? = some c0 ∧ cs[o + 1]? = some c1 ∧ cs[o + 130]? = some n ∧ cs[o + 131]? = some need ∧ cs[o + 132]? = some sum ∧ cs[o + 133]? = some en ∧ cs[o + 134]? = some laid := by
  obtain ⟨hl, pre, post, rfl, rfl⟩ := h
  refine ⟨?_, ?_, ?_, ?_, ?_, ?_, ?_⟩ <;>
    (rw [List.getElem?_append_right (by omega)]; simp [List.getElem?_append, hl])
theorem IsRaw.row (h : IsRaw cs o c0 c1 arr n need sum en laid) (i : Nat) (hi : i < 128) : cs[o + 2 + i]? = arr[i]? := by
  obtain ⟨hl, pre, post, rfl, rfl⟩ := h
  rw [List.getElem?_append_right (by omega), show pre.length + 2 + i - pre.length = i + 1 + 1 by omega]
  simp only [List.cons_append, List.nil_append, List.getElem?_cons_succ]
  rw [List.getElem?_append_left (by omega)]
theorem IsRaw.set0 (h : IsRaw cs o c0 c1 arr n need sum en laid) (v : Value) : IsRaw (cs.set o v) o v c1 arr n need sum en laid := by
  obtain ⟨hl, pre, post, rfl, rfl⟩ := h
  exact ⟨hl, pre, post, by rw [List.set_append_right _ _ (by omega)]; simp, rfl⟩
theorem IsRaw.set1 (h : IsRaw cs o c0 c1 arr n need sum en laid) (v : Value) : IsRaw (cs.set (o + 1) v) o c0 v arr n need sum en laid := by
  obtain ⟨hl, pre, post, rfl, rfl⟩ := h
  exact ⟨hl, pre, post, by rw [List.set_append_right _ _ (by omega)]; simp, rfl⟩
theorem set_tail (arr tl : List Value) (hl : arr.length = 128) (k : Nat) (v : Value) : (arr ++ tl).set (128 + k) v = arr ++ tl.set k v := by
  rw [List.set_append_right _ _ (by omega), hl, Nat.add_sub_cancel_left]
theorem IsRaw.set (h : IsRaw cs o c0 c1 arr n need sum en laid) (k : Nat) (v : Value) (n' need' sum' en' laid' : Value) (hk : k < 5) (hs : [n, need, sum, en, laid].set k v = [n', need', sum', en', laid']) :
    IsRaw (cs.set (o + (130 + k)) v) o c0 c1 arr n' need' sum' en' laid' := by
  obtain ⟨hl, pre, post, rfl, rfl⟩ := h
  refine ⟨hl, pre, post, ?_, rfl⟩
  rw [List.set_append_right _ _ (by omega), Nat.add_sub_cancel_left, show 130 + k = (128 + k) + 1 + 1 by omega]
  simp only [List.cons_append, List.nil_append, List.set_cons_succ]
  rw [set_tail arr _ hl]
  have : (n :: need :: sum :: en :: laid :: post).set k v = [n', need', sum', en', laid'] ++ post := by
    rw [← hs, ← List.set_append_left _ _ (by simpa using hk)]; rfl
  rw [this]
  rfl
theorem IsRaw.setArr (h : IsRaw cs o c0 c1 arr n need sum en laid) (i : Nat) (v : Value) (hi : i < 128) : IsRaw (cs.set (o + 2 + i) v) o c0 c1 (arr.set i v) n need sum en laid := by
  obtain ⟨hl, pre, post, rfl, rfl⟩ := h
  refine ⟨by simpa using hl, pre, post, ?_, rfl⟩
  rw [List.set_append_right _ _ (by omega), show pre.length + 2 + i - pre.length = i + 1 + 1 by omega]
  simp only [List.cons_append, List.nil_append, List.set_cons_succ]
  rw [List.set_append_left _ _ (by omega)]
end
/-- The row of bits in memory. -/
def arrOf (b : List Bool) : List Value := byteVs (b.map sg) ++ List.replicate (128 - b.length) (.int .u8 0)
theorem arrOf_length (b : List Bool) (h : b.length ≤ 128) : (arrOf b).length = 128 := by simp [arrOf, byteVs_length]; omega
theorem arrOf_snoc (b : List Bool) (c : Bool) (h : b.length < 128) : (arrOf b).set b.length (.int .u8 ((sg c).toNat : Int)) = arrOf (b ++ [c]) := by
  unfold arrOf
  have e : 128 - b.length = (128 - (b ++ [c]).length) + 1 := by simp; omega
  have hl : (byteVs (b.map sg)).length = b.length := by simp [byteVs_length]
  rw [e, List.replicate_succ, List.set_append_right _ _ (by omega), hl, Nat.sub_self, List.set_cons_zero]
  simp [byteVs]
theorem arrOf_take (b : List Bool) : (arrOf b).take b.length = byteVs (b.map sg) := by
  unfold arrOf
  rw [List.take_append_of_le_length (by simp [byteVs_length]), List.take_of_length_le (by simp [byteVs_length])]
theorem arrOf_get (b : List Bool) (i : Nat) (h : i < b.length) : (arrOf b)[i]? = some (.int .u8 ((b.map fun x => ((sg x).toNat : Int)).getD i 0)) := by
  have h1 : (arrOf b)[i]? = (byteVs (b.map sg))[i]? := by rw [← arrOf_take, List.getElem?_take_of_lt h]
  rw [h1, byteVs_get _ i (by simpa using h)]
  simp [List.getD, h]
theorem conv_row {P : Program} (src dst e : TypeId) (hs : P.underlying src = some (.slice e)) (he : P.underlying e = some (.int .u8)) (hd : P.underlying dst = some .string) (w : World) (g o k : Nat) (T : TypeId) (cs : List Value) (b : List Bool) (n : Nat)
    (hb : Blk w g T cs) (hn : b.length = n) (h : ∀ i, i < n → cs[o + i]? = (arrOf b)[i]?) : (convert src dst (.slice (some ⟨g, o, none⟩) n k)).run P w = .ok (.string (B b)) w := by
  have hr := run_convert_bytes_arg (P := P) (w := w) src e hs he g o n k ((b.map sg).map fun x => (x.toNat : Int)) (by simp [hn]) (fun i hi => by
    rw [hb.cell, h i hi, arrOf_get b i (by omega), List.map_map]
    rfl) dst hd
  rw [strOf_bytes] at hr
  exact hr
/-- A reader in memory. -/
def IsRd (cs : List Value) (o : Nat) (r : Rd) : Prop :=
  IsRaw cs o (.int .u8 (if r.rn = 0 then 0 else ((sg r.rb).toNat : Int))) (.int .i64 r.rn) (arrOf r.b) (.int .i64 r.b.length) (.int .i64 r.need) (.int .u16 r.sum) (.int .i64 r.en) (.bool r.laid)
/-- A reader within its bounds. -/
structure Rd.Ok (r : Rd) : Prop where
  rn : r.rn ≤ 1000
  len : r.b.length ≤ 127
  need : r.need ≤ 1000
  sum : r.sum < 65536
  en : r.en ≤ 1000000

set_option maxRecDepth 100000 in
set_option maxHeartbeats 3200000 in
theorem inBits_calls (g o : Nat) (T : TypeId) (cs : List Value) (r : Rd) (w : World) (hb : Blk w g T cs) (hr : IsRd cs o r) (hok : Rd.Ok r) :
    Calls Tryz.prog 51 #[.pointer (some ⟨g, o, none⟩)] w fun e w' => e = .returned (.bool r.inBits) ∧ w' = w.drew := by
  obtain ⟨_, _, c2, c3, _, _, _⟩ := hr.get
  have h2 := (hb.drew.cell (o + 130)).trans c2
  have h3 := (hb.drew.cell (o + 131)).trans c3
  have hn := hok.need
  have hl := hok.len
  unfold Rd.inBits
  clear hr hok hb c2 c3
  generalize r.b.length = n at *
  generalize r.need = m at *
  have e1 : IntKind.i64.wrap ((m : Int) + 15) = (m : Int) + 15 := by rw [IntKind.wrap_i64]; omega
  have HR := hid (show (m == 0 || decide (n < m + 15)) = if m = 0 then true else decide ((n : Int) < (m : Int) + 15) from by
    by_cases h : m = 0
    · simp [h]
    · rw [if_neg h, beq_eq_false_iff_ne.2 h, Bool.false_or]
      congr 1
      apply propext
      omega)
  clear hn hl
  by_cases hm : m = 0
  · subst hm
    clear e1
    go_enter Tryz.func51, Tryz.ntmps51
    go_wp2_with fail
    refine region_text (by kernel_rfl) (by kernel_rfl) (fun _ _ W => W = w.drew) rfl ?_
    iterate 18 ((try simp only [Act.put, List.setIfInBounds_toArray, List.set_cons_zero, List.set_cons_succ]); first
      | (refine t_skip (fun _ => rfl) (fun b γ W h => h) ?_)
      | (refine t_pure ?_ (fun _ => rfl) (fun b γ W h => h) (fun b γ W h _ => ?_) ?_; rotate_left; · (subst h; go_simp; rfl)))
    refine t_end ?_
    intro bq gq w6 hall hS
    subst hS
    (try simp only [Act.put, List.setIfInBounds_toArray, List.set_cons_zero, List.set_cons_succ])
    go_wp2_with fail
    go_ret
    exact ⟨rfl, rfl⟩
  · have e2 : ((m : Int) == 0) = false := by rw [beq_eq_false_iff_ne]; omega
    have e3 : (m = 0) = False := eq_false hm
    clear hm
    go_enter Tryz.func51, Tryz.ntmps51
    go_wp2_with fail
    refine region_text (by kernel_rfl) (by kernel_rfl) (fun _ _ W => W = w.drew) rfl ?_
    iterate 18 ((try simp only [Act.put, List.setIfInBounds_toArray, List.set_cons_zero, List.set_cons_succ]); first
      | (refine t_skip (fun _ => rfl) (fun b γ W h => h) ?_)
      | (refine t_pure ?_ (fun _ => rfl) (fun b γ W h => h) (fun b γ W h _ => ?_) ?_; rotate_left; · (subst h; go_simp; rfl)))
    refine t_end ?_
    intro bq gq w6 hall hS
    subst hS
    (try simp only [Act.put, List.setIfInBounds_toArray, List.set_cons_zero, List.set_cons_succ])
    go_wp2_with fail
    go_ret
    exact ⟨(ret_bool (by rw [HR.out, if_neg (of_eq_false e3)]) : Ending.returned (.bool (decide ((n : Int) < (m : Int) + 15))) = Ending.returned (.bool (m == 0 || decide (n < m + 15)))), rfl⟩
theorem IsRd.drew {w : World} {g : Nat} {T : TypeId} {cs : List Value} (h : Blk w g T cs) : Blk w.drew g T cs := h.drew
set_option maxRecDepth 100000 in
set_option maxHeartbeats 3200000 in
theorem right_calls (g o : Nat) (T : TypeId) (cs : List Value) (r : Rd) (w : World) (hb : Blk w g T cs) (hr : IsRd cs o r) (hok : Rd.Ok r) :
    Calls Tryz.prog 36 #[.pointer (some ⟨g, o, none⟩)] w fun e w' => e = .returned (.bool r.right) ∧ w' = w.drew := by
  have HI := hid (inBits_calls g o T cs r w hb hr hok)
  obtain ⟨_, _, _, _, c4, _, _⟩ := hr.get
  have h4 := (hb.drew.cell (o + 132)).trans c4
  have HR := hid (show r.right = (!r.inBits && (r.sum : Int) == 0) from by
    unfold Rd.right
    congr 1
    rw [Bool.eq_iff_iff, beq_iff_eq, beq_iff_eq]
    omega)
  clear hr hok hb c4
  generalize r.right = R at *
  generalize r.inBits = I at *
  generalize r.sum = m at *
  cases I
  all_goals
    go_enter Tryz.func36, Tryz.ntmps36
    go_wp2_with (go_at_call 51; refine HI.out.mono ?_; rintro e w' ⟨rfl, rfl⟩)
    go_ret
    exact ⟨ret_bool (by rw [HR.out]; rfl), rfl⟩
set_option maxRecDepth 100000 in
set_option maxHeartbeats 3200000 in
theorem end_calls (g o : Nat) (T : TypeId) (cs : List Value) (r : Rd) (w : World) (hb : Blk w g T cs) (hr : IsRd cs o r) (hok : Rd.Ok r) :
    Calls Tryz.prog 63 #[.pointer (some ⟨g, o, none⟩)] w fun e w' => e = .returned (.int .i64 ((r.en - 3 : Nat) : Int)) ∧ w' = w := by
  obtain ⟨_, _, _, _, _, c5, _⟩ := hr.get
  have h5 := (hb.cell (o + 133)).trans c5
  have he := hok.en
  clear hr hok hb c5
  generalize r.en = m at *
  have e1 : IntKind.i64.wrap ((m : Int) - 3) = (m : Int) - 3 := by rw [IntKind.wrap_i64]; omega
  have HM := hid (show max ((m : Int) - 3) 0 = ((m - 3 : Nat) : Int) by omega)
  have h0 : 0 ≤ (m : Int) := Int.natCast_nonneg _
  have h6 : (m : Int) ≤ 1000000 := by omega
  clear he
  go_enter Tryz.func63, Tryz.ntmps63
  go_wp2_with fail
  all_goals
    go_ret
    exact ⟨ret_num (by omega), rfl⟩
/-- Beside the reader nothing is another. -/
def Same (cs cs' : List Value) (o : Nat) : Prop := ∀ i, (i < o ∨ o + 135 ≤ i) → cs'[i]? = cs[i]?
theorem Same.refl (cs : List Value) (o : Nat) : Same cs cs o := fun _ _ => rfl
theorem Same.set {cs cs' : List Value} {o : Nat} (h : Same cs cs' o) (k : Nat) (v : Value) (hk : k < 135) : Same cs (cs'.set (o + k) v) o := fun i hi => by
  rw [List.getElem?_set_ne (by omega)]; exact h i hi
theorem Same.trans {a b c : List Value} {o : Nat} (h : Same a b o) (h' : Same b c o) : Same a c o := fun i hi => (h' i hi).trans (h i hi)
/-- What a call of a reader's leaves. -/
structure RdPost (w w' : World) (g o : Nat) (T : TypeId) (cs : List Value) (r : Rd) : Prop where
  out : ∃ cs', Blk w' g T cs' ∧ IsRd cs' o r ∧ Same cs cs' o
  grown : w.grownBy w' (some g)
theorem IsRd.en {cs : List Value} {o : Nat} {r : Rd} (h : IsRd cs o r) (n : Nat) : IsRd (cs.set (o + 133) (.int .i64 n)) o { r with en := n } :=
  IsRaw.set h 3 (.int .i64 n) _ _ _ _ _ (by decide) rfl

set_option maxRecDepth 100000 in
set_option maxHeartbeats 3200000 in
theorem tail_calls (g o : Nat) (T : TypeId) (cs : List Value) (r : Rd) (c : Bool) (w : World) (hb : Blk w g T cs) (hr : IsRd cs o r) (hok : Rd.Ok r) (he9 : r.en ≤ 100000) :
    Calls Tryz.prog 82 #[.pointer (some ⟨g, o, none⟩), .int .u8 ((sg c).toNat : Int)] w fun e w' => e = .returned (.int .i64 ((r.tail c).2 : Int)) ∧ RdPost w w' g o T cs (r.tail c).1 := by
  have hr1 := hr.en (r.en + 1)
  have hb1 := hb.set (o + 133) (.int .i64 ((r.en + 1 : Nat) : Int))
  have hok1 : Rd.Ok { r with en := r.en + 1 } := ⟨hok.rn, hok.len, hok.need, hok.sum, by show r.en + 1 ≤ 1000000; omega⟩
  have HR := hid (right_calls g o T _ _ _ hb1 hr1 hok1)
  have hgr : w.grownBy (w.setCell ⟨g, o + 133, none⟩ (.int .i64 ((r.en + 1 : Nat) : Int))) (some g) := grown_set (grown_refl _ _) _ _
  have HP1 := hid (show RdPost w (w.setCell ⟨g, o + 133, none⟩ (.int .i64 ((r.en + 1 : Nat) : Int))) g o T cs (r.tail c).1 from ⟨⟨_, hb1, hr1, (Same.refl cs o).set 133 _ (by decide)⟩, hgr⟩)
  have HP2 := hid (show RdPost w (w.setCell ⟨g, o + 133, none⟩ (.int .i64 ((r.en + 1 : Nat) : Int))).drew g o T cs (r.tail c).1 from ⟨⟨_, hb1.drew, hr1, (Same.refl cs o).set 133 _ (by decide)⟩, grown_drew hgr⟩)
  obtain ⟨_, _, _, _, _, c5, _⟩ := hr.get
  have h5 := (hb.cell (o + 133)).trans c5
  have f5 := hb.frozen (o + 133)
  have e1 : wrap64 ((r.en : Int) + 1) = ((r.en + 1 : Nat) : Int) := by unfold wrap64; omega
  have h6 := (hb1.cell (o + 133)).trans (by rw [List.getElem?_set_self (by have := (List.getElem?_eq_some_iff.1 c5).1; exact this)])
  have hright : ({ r with en := r.en + 1 } : Rd).right = r.right := rfl
  rw [hright] at HR
  have HT : (r.tail c).2 = if r.en + 1 = 2 then 0 else if c = false then 12 else if r.en + 1 = 3 ∧ r.right = false then 40 else 0 := rfl
  have HTT := hid HT
  clear HT hr hr1 hb hb1 hok hok1 hgr c5 hright
  generalize (r.tail c).2 = E at *
  generalize (r.tail c).1 = R1 at *
  generalize r.right = RR at *
  generalize hm : r.en + 1 = m at *
  generalize r.en = en at *
  have HM := hid hm
  clear hm
  clear he9
  by_cases hm2 : m = 2
  · subst hm2
    have en1 : en = 1 := by have := HM.out; omega
    subst en1
    have HE : E = 0 := HTT.out.trans (if_pos rfl)
    subst HE
    go_enter Tryz.func82, Tryz.ntmps82
    go_wp2_with fail
    go_ret
    exact ⟨rfl, HP1.out⟩
  · have m2 : ((m : Int) == 2) = false := by rw [beq_eq_false_iff_ne]; omega
    cases c
    · have HE : E = 12 := HTT.out.trans ((if_neg hm2).trans (if_pos rfl))
      subst HE
      clear hm2
      rw [show ((sg false).toNat : Int) = 48 from rfl]
      go_enter Tryz.func82, Tryz.ntmps82
      go_wp2_with fail
      go_ret
      exact ⟨rfl, HP1.out⟩
    · rw [show ((sg true).toNat : Int) = 49 from rfl]
      by_cases hm3 : m = 3
      · subst hm3
        have en2 : en = 2 := by have := HM.out; omega
        subst en2
        cases RR
        · have HE : E = 40 := HTT.out.trans ((if_neg hm2).trans ((if_neg (by simp)).trans (if_pos ⟨rfl, rfl⟩)))
          subst HE
          clear hm2
          go_enter Tryz.func82, Tryz.ntmps82
          go_wp2_with (go_at_call 36; refine HR.out.mono ?_; rintro e w' ⟨rfl, rfl⟩)
          go_ret
          exact ⟨rfl, HP2.out⟩
        · have HE : E = 0 := HTT.out.trans ((if_neg hm2).trans ((if_neg (by simp)).trans (if_neg (by simp))))
          subst HE
          clear hm2
          go_enter Tryz.func82, Tryz.ntmps82
          go_wp2_with (go_at_call 36; refine HR.out.mono ?_; rintro e w' ⟨rfl, rfl⟩)
          go_ret
          exact ⟨rfl, HP2.out⟩
      · have m3 : ((m : Int) == 3) = false := by rw [beq_eq_false_iff_ne]; omega
        have HE : E = 0 := HTT.out.trans ((if_neg hm2).trans ((if_neg (by simp)).trans (if_neg (fun h => hm3 h.1))))
        subst HE
        clear hm2 hm3
        go_enter Tryz.func82, Tryz.ntmps82
        go_wp2_with fail
        go_ret
        exact ⟨rfl, HP1.out⟩
section
variable {P : Program} {ops : Array Oper} {S : (Nat → Bool) → (Nat → Nat) → World → Prop} {Fin : ((Nat → Nat) → Act) → Prop} {i : Nat} {o : Oper} {rest : List Oper} {a : (Nat → Nat) → Act}
/-- New memory as a row, nothing that waits for it having come up. -/
theorem t_build (n : Nat) (hw : ∀ g, Region.wanted o (yielded ops (a g).tmps) = true)
    (h : ∀ b g w, S b g w → b i = false → (∀ j p, ops[j]? = some p → i ∈ needsOf p → b j = false) → ∃ w', (execOp (a g).eval o).run P w = .ok (.value (.slice (some ⟨w.heap.size, 0, none⟩) n n)) w' ∧ S (up b i) (upd g i w.heap.size) w')
    (hr : TextRun P ops S Fin (i + 1) rest (fun g => (a g).put o.dst (.slice (some ⟨g i, 0, none⟩) n n))) : TextRun P ops S Fin i (o :: rest) a :=
  ⟨fun g => .slice (some ⟨g i, 0, none⟩) n n, fun g g' hg => by simp only; rw [hg i (.inl rfl)], fun b g w hs hb hj hf => .inl ⟨hw g, by
    obtain ⟨w', h1, h2⟩ := h b g w hs hb hf
    unfold Oper.wp
    rw [h1]
    exact ⟨w.heap.size, by simp [upd], h2⟩⟩, hr⟩
end
/-- What the region that lays a bit keeps. -/
structure PutInv (w : World) (g o : Nat) (T : TypeId) (cs : List Value) (n : Nat) (c : Value) (b : Nat → Bool) (γ : Nat → Nat) (W : World) : Prop where
  out : ∃ cs', Blk W g T cs' ∧ (b 14 = false → b 18 = false → cs' = cs) ∧ (b 14 = true → b 18 = false → cs' = cs.set (o + 2 + n) c) ∧ (b 18 = true → cs' = (cs.set (o + 2 + n) c).set (o + 130) (.int .i64 ((n + 1 : Nat) : Int)))
  new : b 13 = true → Blk W (γ 13) 5 [c] ∧ γ 13 ≠ g
  grown : w.grownBy W (some g)
theorem copy_one {P : Program} (w : World) (dT ty elem : TypeId) (hu : P.underlying dT = some (.slice elem)) (hs : (P.info? elem).map (·.size) = some 1) (g k m q : Nat) (T U : TypeId) (cs : List Value) (c : Value) (hc : c.oneCell' = true)
    (hb : Blk w g T cs) (hq : Blk w q U [c]) (hk : k < cs.length) (hm : 0 < m) (cap : Nat) :
    (Builtin.copy_ #[dT, dT] ty #[.slice (some ⟨g, k, none⟩) m cap, .slice (some ⟨q, 0, none⟩) 1 1]).run P w = .ok (.int .i64 1) (w.setRow g (cs.set k c).toArray) := by
  have := run_copy_row (P := P) w dT dT ty elem g k m cap ⟨q, 0, none⟩ 1 1 cs.toArray T [c] hu hs hb (by show 1 = Nat.min 1 m; exact (Nat.min_eq_left hm).symm) (fun j v hj => by
    cases j with
    | zero =>
      simp at hj; subst hj
      have := hq.cell 0
      simpa [Addr.add] using this
    | succ j => simp at hj) (by simp; omega) (fun v hv => by simp at hv; subst hv; exact hc)
  rw [this]
  congr 2
  simp only [List.length_singleton]
  congr 1
  rw [List.set_eq_take_append_cons_drop, if_pos hk]
  simp
theorem info_u8' : (Tryz.prog.info? 5).map (·.size) = some 1 := by kernel_rfl
theorem blk_row {w : World} {g : Nat} {T : TypeId} {cs : List Value} (h : Blk w g T cs) (xs : List Value) : Blk (w.setRow g xs.toArray) g T xs := by
  have := setRow_heap w g cs.toArray xs.toArray T (0, 0) h
  exact this
theorem IsRd.snoc {cs : List Value} {o : Nat} {r : Rd} (h : IsRd cs o r) (c : Bool) (hl : r.b.length < 128) :
    IsRd ((cs.set (o + 2 + r.b.length) (.int .u8 ((sg c).toNat : Int))).set (o + 130) (.int .i64 ((r.b.length + 1 : Nat) : Int))) o { r with b := r.b ++ [c] } := by
  have h1 := IsRaw.setArr h r.b.length (.int .u8 ((sg c).toNat : Int)) hl
  rw [arrOf_snoc _ _ hl] at h1
  have h2 := h1.set 0 (.int .i64 ((r.b.length + 1 : Nat) : Int)) _ _ _ _ _ (by decide) rfl
  have e : (r.b ++ [c]).length = r.b.length + 1 := by simp
  unfold IsRd
  simp only [e]
  exact h2
theorem IsRd.sums {cs : List Value} {o : Nat} {r : Rd} (h : IsRd cs o r) (n : Nat) : IsRd (cs.set (o + 132) (.int .u16 n)) o { r with sum := n } :=
  IsRaw.set h 2 (.int .u16 n) _ _ _ _ _ (by decide) rfl
theorem IsRd.needs {cs : List Value} {o : Nat} {r : Rd} (h : IsRd cs o r) (n : Nat) : IsRd (cs.set (o + 131) (.int .i64 n)) o { r with need := n } :=
  IsRaw.set h 1 (.int .i64 n) _ _ _ _ _ (by decide) rfl
theorem sg_test (c : Bool) : (((sg c).toNat : Int) == 49) = c := by cases c <;> rfl
/-- A reader's block as it is now. -/
structure Here (w W : World) (g : Nat) (T : TypeId) (cs : List Value) : Prop where
  blk : Blk W g T cs
  grown : w.grownBy W (some g)
theorem Here.later {w W W' : World} {g : Nat} {T : TypeId} {cs : List Value} (h : Here w W g T cs) (hb : Below W.heap.size W W') : Here w W' g T cs := ⟨h.blk.below hb, grown_below h.grown hb⟩
theorem Here.drew {w W : World} {g : Nat} {T : TypeId} {cs : List Value} (h : Here w W g T cs) : Here w W.drew g T cs := ⟨h.blk.drew, grown_drew h.grown⟩
theorem Here.set {w W : World} {g : Nat} {T : TypeId} {cs : List Value} (h : Here w W g T cs) (k : Nat) (v : Value) : Here w (W.setCell ⟨g, k, none⟩ v) g T (cs.set k v) := ⟨h.blk.set k v, grown_set h.grown k v⟩
theorem Here.post {w W : World} {g o : Nat} {T : TypeId} {cs cs' : List Value} {r : Rd} (h : Here w W g T cs') (hr : IsRd cs' o r) (hs : Same cs cs' o) : RdPost w W g o T cs r := ⟨⟨_, h.blk, hr, hs⟩, h.grown⟩
set_option maxRecDepth 100000 in
set_option maxHeartbeats 6400000 in
theorem radd_calls (g o : Nat) (T : TypeId) (cs : List Value) (r : Rd) (c : Bool) (w : World) (hb : Blk w g T cs) (hr : IsRd cs o r) (hok : Rd.Ok r) :
    Calls Tryz.prog 81 #[.pointer (some ⟨g, o, none⟩), .int .u8 ((sg c).toNat : Int)] w fun e w' => e = .returned (.int .i64 ((r.add c).2 : Int)) ∧ RdPost w w' g o T cs (r.add c).1 := by
  obtain ⟨g0, g1, g2, g3, g4, g5, g6⟩ := hr.get
  have hn127 := hok.len
  have hlen : o + 134 < cs.length := (List.getElem?_eq_some_iff.1 g6).1
  obtain ⟨n, hn⟩ : ∃ n, r.b.length = n := ⟨_, rfl⟩
  rw [hn] at g2 hn127
  have HN := hid hn
  have e1 : IntKind.i64.wrap ((n : Int) + 1) = ((n + 1 : Nat) : Int) := by rw [IntKind.wrap_i64]; omega
  have HG2 := hid g2
  have HB := hid hb
  have HLEN := hid hlen
  have HN127 := hid hn127
  have n0 : (0 : Int) ≤ (n : Int) := Int.natCast_nonneg _
  have n1 : ((n : Int) ≤ 128) = True := eq_true (by omega)
  have n2 : (n ≤ 128) = True := eq_true (by omega)
  have n3 : (128 = n) = False := eq_false (by omega)
  clear g0 g1 g2 g3 g4 g5 g6 hn127 hlen hb hn
  go_enter Tryz.func81, Tryz.ntmps81
  go_wp2_with fail
  refine region_text (by kernel_rfl) (by kernel_rfl) (PutInv w g o T cs n (.int .u8 ((sg c).toNat : Int))) ⟨⟨cs, HB.out.drew, fun _ _ => rfl, fun h => by simp at h, fun h => by simp at h⟩, fun h => by simp at h, grown_drew (grown_refl _ _)⟩ ?_
  refine t_pure (.pointer (some ⟨g, o, none⟩)) (fun _ => rfl) (fun b γ W h => ⟨h.out, h.new, h.grown⟩) (fun b γ W h _ => by go_simp) ?_
  refine t_pure (.pointer (some ⟨g, o, none⟩)) (fun _ => rfl) (fun b γ W h => ⟨h.out, h.new, h.grown⟩) (fun b γ W h _ => by go_simp) ?_
  refine t_pure (.pointer (some ⟨g, o + 130, none⟩)) (fun _ => rfl) (fun b γ W h => ⟨h.out, h.new, h.grown⟩) (fun b γ W h _ => by go_simp) ?_
  refine t_run (.int .i64 n) (fun _ => rfl) (fun b γ W h hb _ hf => ⟨W, ?_, ⟨h.out, h.new, h.grown⟩⟩) ?_
  · have h18 : b 18 = false := hf 18 _ rfl (by decide)
    obtain ⟨cs', k1, k2, k3, _⟩ := h.out
    have hc2 : W.cell? ⟨g, o + 130, none⟩ = some (.int .i64 n) := by
      rw [k1.cell]
      cases h14 : b 14
      · rw [k2 h14 h18]; exact HG2.out
      · rw [k3 h14 h18, List.getElem?_set_ne (by have := HN127.out; omega)]; exact HG2.out
    go_simp
  refine t_pure (.pointer (some ⟨g, o, none⟩)) (fun _ => rfl) (fun b γ W h => ⟨h.out, h.new, h.grown⟩) (fun b γ W h _ => by go_simp) ?_
  refine t_pure (.pointer (some ⟨g, o, none⟩)) (fun _ => rfl) (fun b γ W h => ⟨h.out, h.new, h.grown⟩) (fun b γ W h _ => by go_simp) ?_
  refine t_pure (.pointer (some ⟨g, o + 2, none⟩)) (fun _ => rfl) (fun b γ W h => ⟨h.out, h.new, h.grown⟩) (fun b γ W h _ => by go_simp) ?_
  refine t_pure (.pointer (some ⟨g, o, none⟩)) (fun _ => rfl) (fun b γ W h => ⟨h.out, h.new, h.grown⟩) (fun b γ W h _ => by go_simp) ?_
  refine t_pure (.pointer (some ⟨g, o, none⟩)) (fun _ => rfl) (fun b γ W h => ⟨h.out, h.new, h.grown⟩) (fun b γ W h _ => by go_simp) ?_
  refine t_pure (.pointer (some ⟨g, o + 130, none⟩)) (fun _ => rfl) (fun b γ W h => ⟨h.out, h.new, h.grown⟩) (fun b γ W h _ => by go_simp) ?_
  refine t_run (.int .i64 n) (fun _ => rfl) (fun b γ W h hb _ hf => ⟨W, ?_, ⟨h.out, h.new, h.grown⟩⟩) ?_
  · have h18 : b 18 = false := hf 18 _ rfl (by decide)
    obtain ⟨cs', k1, k2, k3, _⟩ := h.out
    have hc2 : W.cell? ⟨g, o + 130, none⟩ = some (.int .i64 n) := by
      rw [k1.cell]
      cases h14 : b 14
      · rw [k2 h14 h18]; exact HG2.out
      · rw [k3 h14 h18, List.getElem?_set_ne (by have := HN127.out; omega)]; exact HG2.out
    go_simp
  refine t_pure (.slice (some ⟨g, o + 2 + n, none⟩) (128 - n) (128 - n)) (fun _ => rfl) (fun b γ W h => ⟨h.out, h.new, h.grown⟩) (fun b γ W h _ => by go_simp) ?_
  refine t_pure (.int .u8 ((sg c).toNat : Int)) (fun _ => rfl) (fun b γ W h => ⟨h.out, h.new, h.grown⟩) (fun b γ W h _ => by go_simp) ?_
  refine t_build 1 (fun _ => rfl) (fun b γ W h hb hf => ⟨W.alloc (.cells #[.int .u8 ((sg c).toNat : Int)] 5), by go_simp, ?_⟩) ?_
  · obtain ⟨cs', k1, k2, k3, k4⟩ := h.out
    exact ⟨⟨cs', k1.alloc _, k2, k3, k4⟩, fun _ => ⟨by rw [show upd γ 13 W.heap.size 13 = W.heap.size by simp [upd]]; exact Blk.new W _ _, by rw [show upd γ 13 W.heap.size 13 = W.heap.size by simp [upd]]; have := k1.lt; omega⟩, grown_alloc h.grown _⟩
  refine t_run (.int .i64 1) (fun _ => rfl) (fun b γ W h hb hn hf => ?_) ?_
  · have h18 : b 18 = false := hf 18 _ rfl (by decide)
    have h13 : b 13 = true := hn 13 (by decide)
    obtain ⟨cs', k1, k2, k3, k4⟩ := h.out
    obtain rfl := k2 hb h18
    obtain ⟨q1, q2⟩ := h.new h13
    have hrun := copy_one (P := Tryz.prog) W 70 3 5 Tryz.underlying70 info_u8' g (o + 2 + n) (128 - n) (γ 13) T 5 cs' (.int .u8 ((sg c).toNat : Int)) rfl k1 q1 (by have := HLEN.out; have := HN127.out; omega) (by have := HN127.out; omega) (128 - n)
    have h18' : up b 14 18 = false := by simp [up, h18]
    refine ⟨W.setRow g (cs'.set (o + 2 + n) (.int .u8 ((sg c).toNat : Int))).toArray, by go_simp, ⟨_, blk_row k1 _, fun h => (by simp [up] at h), fun _ _ => rfl, fun h => (by rw [h18'] at h; cases h)⟩, fun _ => ⟨(setRow_other W g (γ 13) _ q2).trans q1, q2⟩, grown_trans h.grown ⟨rfl, rfl, rfl, by simp [World.setRow], fun k _ hk => setRow_other W g k _ (fun e => hk (by rw [e]))⟩⟩
  refine t_pure (.int .i64 ((n + 1 : Nat) : Int)) (fun _ => rfl) (fun b γ W h => ⟨h.out, h.new, h.grown⟩) (fun b γ W h _ => by go_simp) ?_
  refine t_pure (.pointer (some ⟨g, o, none⟩)) (fun _ => rfl) (fun b γ W h => ⟨h.out, h.new, h.grown⟩) (fun b γ W h _ => by go_simp) ?_
  refine t_pure (.pointer (some ⟨g, o + 130, none⟩)) (fun _ => rfl) (fun b γ W h => ⟨h.out, h.new, h.grown⟩) (fun b γ W h _ => by go_simp) ?_
  refine t_store (fun _ => rfl) (fun b γ W h hb hn hf => ?_) ?_
  · have h14 : b 14 = true := hn 14 (by decide)
    obtain ⟨cs', k1, k2, k3, k4⟩ := h.out
    obtain rfl := k3 h14 hb
    have hc2 : W.cell? ⟨g, o + 130, none⟩ = some (.int .i64 n) := by
      rw [k1.cell, List.getElem?_set_ne (by have := HN127.out; omega)]
      exact HG2.out
    have hf2 := k1.frozen (o + 130)
    refine ⟨W.setCell ⟨g, o + 130, none⟩ (.int .i64 ((n + 1 : Nat) : Int)), by go_simp, ⟨_, k1.set (o + 130) _, fun _ h => (by simp [up] at h), fun _ h => (by simp [up] at h), fun _ => rfl⟩, fun h13 => ?_, grown_set h.grown _ _⟩
    obtain ⟨q1, q2⟩ := h.new h13
    exact ⟨q1.far (p := ⟨g, o + 130, none⟩) q2 _, q2⟩
  refine t_end ?_
  intro bq gq w1 hall hS
  obtain ⟨cs1, hb1, _, _, k4⟩ := hS.out
  obtain rfl := k4 (hall 18 (by decide))
  have HH : Here w w1 g T _ := ⟨hb1, hS.grown⟩
  have hr1 := hr.snoc c (by have := HN127.out; have := HN.out; omega)
  have hs1 : Same cs ((cs.set (o + 2 + n) (.int .u8 ((sg c).toNat : Int))).set (o + 130) (.int .i64 ((n + 1 : Nat) : Int))) o := by
    have := ((Same.refl cs o).set (2 + n) (.int .u8 ((sg c).toNat : Int)) (by have := HN127.out; omega)).set 130 (.int .i64 ((n + 1 : Nat) : Int)) (by decide)
    rwa [← Nat.add_assoc] at this
  rw [HN.out] at hr1
  clear hS hall k4 hb1
  generalize (cs.set (o + 2 + n) (.int .u8 ((sg c).toNat : Int))).set (o + 130) (.int .i64 ((n + 1 : Nat) : Int)) = cs1 at *
  have hr2 := hr1.sums (addC r.sum c)
  have hs2 := hs1.set 132 (.int .u16 (addC r.sum c)) (by decide)
  obtain ⟨_, _, _, p3, p4, _, _⟩ := hr1.get
  have q4 := (HH.blk.cell (o + 132)).trans p4
  have f4 := HH.blk.frozen (o + 132)
  have HH2 := HH.set (o + 132) (.int .u16 (addC r.sum c))
  have hst := sg_test c
  have HADD := hid (BitsW.add_calls r.sum c w1 hok.sum)
  (try simp only [Act.put, List.setIfInBounds_toArray, List.set_cons_zero, List.set_cons_succ])
  go_wp2_with fail
  refine HADD.out.mono ?_
  rintro e w2 ⟨rfl, rfl⟩
  have g3 : (cs1.set (o + 132) (.int .u16 (addC r.sum c)))[o + 131]? = some (.int .i64 r.need) := by rw [List.getElem?_set_ne (by omega)]; exact p3
  have q3 := (HH2.blk.cell (o + 131)).trans g3
  have f3 := HH2.blk.frozen (o + 131)
  have HL2 : (r.b ++ [c]).length = n + 1 := by have := HN.out; simp; omega
  have g2 : (cs1.set (o + 132) (.int .u16 (addC r.sum c)))[o + 130]? = some (.int .i64 ((n + 1 : Nat) : Int)) := by
    obtain ⟨_, _, p2, _⟩ := hr2.get
    rw [p2]
    simp only [HL2]
  have hadd : r.add c = if r.need ≠ 0 then ({ r with b := r.b ++ [c], sum := addC r.sum c }, 0) else if (needL (r.b ++ [c])).2 ≠ 0 then ({ r with b := r.b ++ [c], sum := addC r.sum c }, (needL (r.b ++ [c])).2)
      else ({ r with b := r.b ++ [c], sum := addC r.sum c, need := (needL (r.b ++ [c])).1 }, 0) := rfl
  have HNE := hok.need
  have HRR := hid hr2
  have HSS := hid hs2
  have HOK := hid hok
  clear hr hr1 hr2 hs1 hs2 p3 p4 HH HADD hok HG2 HB HLEN
  by_cases hz : r.need = 0
  · rw [if_neg (by simp [hz])] at hadd
    have q3' : (w1.setCell ⟨g, o + 132, none⟩ (.int .u16 (addC r.sum c))).cell? ⟨g, o + 131, none⟩ = some (.int .i64 0) := by rw [q3, hz]; rfl
    have HADD := hid hadd
    have HZ := hid hz
    clear hadd hz g3 q3
    go_wp2_with fail
    generalize hcs2 : cs1.set (o + 132) (.int .u16 (addC r.sum c)) = cs2 at *
    generalize hw2 : w1.setCell ⟨g, o + 132, none⟩ (.int .u16 (addC r.sum c)) = w2 at *
    clear hcs2 hw2 q4 f4 q3' f3
    have q2 := HRR.out.get.2.2.1
    simp only [HL2] at q2
    have hcell : ∀ i, i < n + 1 → cs2[o + 2 + i]? = (arrOf (r.b ++ [c]))[i]? := fun i hi => HRR.out.row i (by have := HN127.out; omega)
    have HCONV := hid (fun (W : World) (hW : Blk W g T cs2) => conv_row (P := Tryz.prog) 70 9 5 Tryz.underlying70 Tryz.underlying5 Tryz.underlying9 W g (o + 2) 128 T cs2 (r.b ++ [c]) (n + 1) hW HL2 hcell)
    have HQ2 := hid q2
    have HND := hid (fun (W : World) => need_calls (B (r.b ++ [c])) W (by rw [B_size, HL2]; have := HN127.out; omega))
    clear hcell q2
    have n5 : ((n : Int) + 1 ≤ 128) = True := eq_true (by have := HN127.out; omega)
    have n6 : ((0 : Int) ≤ (n : Int) + 1) = True := eq_true (by omega)
    refine region_text (by kernel_rfl) (by kernel_rfl) (fun _ _ W => Here w W g T cs2) HH2.drew ?_
    clear HH2
    iterate 8 ((try simp only [Act.put, List.setIfInBounds_toArray, List.set_cons_zero, List.set_cons_succ]); first
      | (refine t_skip (fun _ => rfl) (fun b γ W h => h) ?_)
      | (refine t_pure ?_ (fun _ => rfl) (fun b γ W h => h) (fun b γ W h _ => ?_) ?_; rotate_left; · (have hc := (h.blk.cell (o + 130)).trans HQ2.out; go_simp; rfl)))
    generalize hnd : needL (r.b ++ [c]) = nd at *
    obtain ⟨N, E⟩ := nd
    (try simp only [Act.put, List.setIfInBounds_toArray, List.set_cons_zero, List.set_cons_succ])
    refine t_pure (.string (B (r.b ++ [c]))) (fun _ => rfl) (fun b γ W h => h) (fun b γ W h _ => by have hcv := HCONV.out W h.blk; go_simp) ?_
    (try simp only [Act.put, List.setIfInBounds_toArray, List.set_cons_zero, List.set_cons_succ])
    refine t_call (.tuple #[.int .i64 (N : Int), .int .i64 (E : Int)]) (fun _ => rfl) (f := 102) (args := #[.string (B (r.b ++ [c]))]) (fun b γ W h _ => by go_simp) (fun b γ W h _ => (HND.out W).mono (fun e w2 h2 => ⟨by rw [h2.1, bitsOf_B, hnd], h.later h2.2⟩)) ?_
    iterate 5 ((try simp only [Act.put, List.setIfInBounds_toArray, List.set_cons_zero, List.set_cons_succ]); first
      | (refine t_skip (fun _ => rfl) (fun b γ W h => h) ?_)
      | (refine t_pure ?_ (fun _ => rfl) (fun b γ W h => h) (fun b γ W h _ => ?_) ?_; rotate_left; · (go_simp; rfl)))
    refine t_end ?_
    intro bq2 gq2 w3 hall HH
    clear hall HND HCONV
    (try simp only [Act.put, List.setIfInBounds_toArray, List.set_cons_zero, List.set_cons_succ])
    have hr2 := HRR.out
    have hs2 := HSS.out
    obtain ⟨_, _, _, p3, _, _, _⟩ := hr2.get
    have f3 := HH.blk.frozen (o + 131)
    have q3 := (HH.blk.cell (o + 131)).trans p3
    have HH3 := hid (HH.set (o + 131) (.int .i64 (N : Int)))
    have HRN := hid (hr2.needs N)
    have HSN := hid (hs2.set 131 (.int .i64 (N : Int)) (by decide))
    have hadd := HADD.out
    clear HADD hr2 hs2 p3
    by_cases hE : E = 0
    · subst hE
      rw [if_neg (by simp)] at hadd
      have HADD := hid hadd
      clear hadd
      go_wp2_with fail
      go_ret
      rw [HADD.out]
      exact ⟨rfl, HH3.out.post HRN.out HSN.out⟩
    · rw [if_pos hE] at hadd
      have HADD := hid hadd
      have t1 : ((E : Int) == 0) = false := by rw [beq_eq_false_iff_ne]; omega
      have t2 : (E = 0) = False := eq_false hE
      clear hadd hE
      go_wp2_with fail
      go_ret
      rw [HADD.out]
      exact ⟨rfl, HH.post HRR.out HSS.out⟩
  · rw [if_pos hz] at hadd
    have z1 : (0 < r.need) = True := eq_true (by omega)
    have z2 : ((0 : Int) < (r.need : Int)) = True := eq_true (by omega)
    have HZ := hid hz
    have HADD := hid hadd
    clear hadd hz
    go_wp2_with fail
    go_ret
    rw [HADD.out]
    exact ⟨rfl, HH2.post HRR.out HSS.out⟩
end Go.Proofs.YtpkpnaedacefaaaGreat.CodeW
