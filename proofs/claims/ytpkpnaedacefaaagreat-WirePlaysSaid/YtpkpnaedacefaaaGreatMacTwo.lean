/- Two nodes that send at once, a third one that hears: who wins, who loses, at which bit. -/
import Derived.Test.YtpkpnaedacefaaaGreatMacHear
import Derived.Test.YtpkpnaedacefaaaGreatMacArb
namespace Go.Proofs.YtpkpnaedacefaaaGreat.MacW
set_option linter.unusedVariables false
set_option linter.unusedSimpArgs false
open Go Go.Proofs.YtpkpnaedacefaaaGreat.Lib Go.Proofs.YtpkpnaedacefaaaGreat.Bits Go.Proofs.YtpkpnaedacefaaaGreat.BitsW Go.Proofs.YtpkpnaedacefaaaGreat.StuffW Go.Proofs.YtpkpnaedacefaaaGreat.Frame Go.Proofs.YtpkpnaedacefaaaGreat.FrameW Go.Proofs.YtpkpnaedacefaaaGreat.Code Go.Proofs.YtpkpnaedacefaaaGreat.CodeW Go.Proofs.YtpkpnaedacefaaaGreat.CodeL Go.Proofs.YtpkpnaedacefaaaGreat.Mac
theorem split_at : ∀ (a b : List Bool) (i : Nat) (x : Bool), a[i]? = some x → b[i]? = some (!x) → ∃ (p : List Bool) (c : Bool) (s u : List Bool), a = p ++ c :: s ∧ b = p ++ (!c) :: u
  | [], _, _, _, h, _ => by simp at h
  | _ :: _, [], _, _, _, h => by simp at h
  | a :: l, b :: m, i, x, h1, h2 => by
    by_cases hab : a = b
    · subst hab
      cases i with
      | zero =>
        simp only [List.getElem?_cons_zero, Option.some.injEq] at h1 h2
        rw [h1] at h2
        cases x <;> cases h2
      | succ i =>
        obtain ⟨p, c, s, u, e1, e2⟩ := split_at l m i x (by simpa using h1) (by simpa using h2)
        exact ⟨a :: p, c, s, u, by rw [e1]; rfl, by rw [e2]; rfl⟩
    · exact ⟨[], a, l, m, rfl, by cases a <;> cases b <;> simp at hab ⊢⟩
theorem same_len : ∀ (a b : List Bool), a.length = b.length → a ≠ b → ∃ (i : Nat) (x : Bool), a[i]? = some x ∧ b[i]? = some (!x)
  | [], [], _, h => absurd rfl h
  | [], _ :: _, h, _ => by simp at h
  | _ :: _, [], h, _ => by simp at h
  | a :: l, b :: m, hl, h => by
    by_cases hab : a = b
    · subst hab
      obtain ⟨i, x, h1, h2⟩ := same_len l m (by simpa using hl) (fun e => h (by rw [e]))
      exact ⟨i + 1, x, by simpa using h1, by simpa using h2⟩
    · exact ⟨0, a, rfl, by cases a <;> cases b <;> simp at hab ⊢⟩
theorem arb_13 (e : Bool) (n : Nat) (r : Bool) : (arbL e n r)[13]? = some e := by
  have h := body_pre e n r []
  have h2 := pre_13 e n r (ofN ([] : List UInt8).length 4 ++ fromB [])
  rw [← h] at h2
  unfold bodyL at h2
  rw [List.getElem?_append_left (by rw [arbL_length]; split <;> omega)] at h2
  exact h2
/-- Frames of which one is won against at bit D. -/
structure Apart (W L : Fm) (D : Nat) : Prop where
  pos : 0 < D
  ltL : D < L.arb
  ltW : D < W.arb
  eq : ∀ j, j < D → bitAt W.ack j = bitAt L.ack j
  w : bitAt W.ack D = false
  l : bitAt L.ack D = true
theorem S_arb (f : Fm) : ∃ z, f.S = arbL f.e f.i.toNat f.r ++ z ∧ 20 ≤ z.length := by
  refine ⟨(if f.e then [false, false] else [false]) ++ (ofN f.d.data.toList.length 4 ++ fromB f.d.data.toList) ++ ofN (crcN (bodyL f.e f.i.toNat f.r f.d.data.toList)) 15, ?_, ?_⟩
  · unfold Fm.S sumL
    rw [show bodyL f.e f.i.toNat f.r f.d.data.toList = arbL f.e f.i.toNat f.r ++ ((if f.e then [false, false] else [false]) ++ (ofN f.d.data.toList.length 4 ++ fromB f.d.data.toList)) from rfl, List.append_assoc]
  · simp only [List.length_append, ofN_length]
    split <;> simp <;> omega
theorem stuffL_head (n : Nat) (b c : Bool) (l : List Bool) : ∃ t, stuffL n b (c :: l) = c :: t := by
  unfold stuffL
  split
  · exact ⟨_, rfl⟩
  · exact ⟨_, rfl⟩
theorem arb_ok {f : Fm} (h : f.Good) : f.arb = (stuff (arbL f.e f.i.toNat f.r)).length := by
  unfold Fm.arb; rw [if_pos h.ok]
theorem arb_room {f : Fm} (h : f.Good) : f.arb + 30 ≤ f.ack.length := by
  obtain ⟨z, hz, hl⟩ := S_arb f
  have h2 := ack_len f
  rw [hz] at h2
  unfold stuff at h2
  rw [stuffL_append, List.length_append] at h2
  rw [arb_ok h]
  unfold stuff
  have := stuffL_le z (stuffSt 0 false (arbL f.e f.i.toNat f.r)).1 (stuffSt 0 false (arbL f.e f.i.toNat f.r)).2
  omega
theorem bitAt_app_left (x y : List Bool) {j : Nat} (h : j < x.length) : bitAt (x ++ y) j = bitAt x j := by
  unfold bitAt
  rw [List.getD_eq_getElem?_getD, List.getD_eq_getElem?_getD, List.getElem?_append_left h]
theorem bitAt_app_at (x : List Bool) (c : Bool) (y : List Bool) : bitAt (x ++ c :: y) x.length = c := by
  unfold bitAt
  rw [List.getD_eq_getElem?_getD, List.getElem?_append_right (Nat.le_refl _), Nat.sub_self]
  rfl
theorem ack_split {f : Fm} (h : f.Good) {p s : List Bool} {c : Bool} (e : arbL f.e f.i.toNat f.r = p ++ c :: s) :
    (∀ j, j < (stuff p).length → bitAt f.ack j = bitAt (stuff p) j) ∧ bitAt f.ack (stuff p).length = c ∧ (stuff p).length < f.arb := by
  obtain ⟨z, hz, _⟩ := S_arb f
  obtain ⟨t, ht⟩ := stuffL_head (stuffSt 0 false p).1 (stuffSt 0 false p).2 c (s ++ z)
  obtain ⟨t2, ht2⟩ := stuffL_head (stuffSt 0 false p).1 (stuffSt 0 false p).2 c s
  have hs : f.ack = stuff p ++ (c :: (t ++ ackT)) := by
    unfold Fm.ack
    rw [hz, e, List.append_assoc]
    unfold stuff
    rw [List.cons_append, stuffL_append, ht, List.append_assoc]
    rfl
  refine ⟨fun j hj => ?_, ?_, ?_⟩
  · rw [hs, bitAt_app_left _ _ hj]
  · rw [hs, bitAt_app_at]
  · rw [arb_ok h, e]
    unfold stuff
    rw [stuffL_append, ht2, List.length_append, List.length_cons]
    omega
theorem apart_of {W L : Fm} (hW : W.Good) (hL : L.Good) {p s u : List Bool} (e1 : arbL W.e W.i.toNat W.r = p ++ false :: s) (e2 : arbL L.e L.i.toNat L.r = p ++ true :: u) : Apart W L (stuff p).length := by
  obtain ⟨a1, a2, a3⟩ := ack_split hW e1
  obtain ⟨b1, b2, b3⟩ := ack_split hL e2
  refine ⟨?_, b3, a3, fun j hj => by rw [a1 j hj, b1 j hj], a2, b2⟩
  have hp : p ≠ [] := by
    rintro rfl
    have : ∃ t, arbL L.e L.i.toNat L.r = false :: t := by unfold arbL; split <;> exact ⟨_, rfl⟩
    obtain ⟨t, ht⟩ := this
    rw [ht] at e2
    cases e2
  have := stuffL_le p 0 false
  have h3 : 0 < p.length := List.length_pos_iff.2 hp
  unfold stuff
  omega
theorem apart_two {a b : Fm} (ha : a.Good) (hb : b.Good) (hne : ¬ (a.i = b.i ∧ a.e = b.e ∧ a.r = b.r)) : (∃ D, Apart a b D) ∨ (∃ D, Apart b a D) := by
  have hx : ∃ (i : Nat) (x : Bool), (arbL a.e a.i.toNat a.r)[i]? = some x ∧ (arbL b.e b.i.toNat b.r)[i]? = some (!x) := by
    by_cases he : a.e = b.e
    · refine same_len _ _ (by rw [arbL_length, arbL_length, he]) (fun h => ?_)
      obtain ⟨h1, h2, h3⟩ := arb_inj (ok_lt ha.ok ha.wf) (ok_lt hb.ok hb.wf) h
      have w1 := ha.wf.1
      have w2 := hb.wf.1
      exact hne ⟨by omega, h1, h3⟩
    · refine ⟨13, a.e, arb_13 _ _ _, ?_⟩
      rw [arb_13]
      cases h1 : a.e <;> cases h2 : b.e <;> simp [h1, h2] at he ⊢
  obtain ⟨i, x, h1, h2⟩ := hx
  obtain ⟨p, c, s, u, e1, e2⟩ := split_at _ _ i x h1 h2
  cases c
  · exact .inl ⟨_, apart_of ha hb e1 e2⟩
  · exact .inr ⟨_, apart_of hb ha e2 e1⟩
/-- The loser: it sends, loses, hears. -/
def loM (W L : Fm) (D j : Nat) : M := if j ≤ D then sdM L j else hrM (sendM { idleM with waits := true, f := L } L D).done W j
def loE (W L : Fm) (D j : Nat) : List Ev := if j = 0 then [⟨6, Fm.zero, 0⟩] else if j < D then [] else if j = D then [⟨3, L, 0⟩] else hrE W j
theorem take_same {x y : List Bool} {D : Nat} (h1 : D ≤ x.length) (h2 : D ≤ y.length) (h : ∀ j, j < D → bitAt x j = bitAt y j) : x.take D = y.take D := by
  refine List.ext_getElem (by rw [List.length_take, List.length_take]; omega) (fun j hj1 hj2 => ?_)
  rw [List.length_take] at hj1 hj2
  rw [List.getElem_take, List.getElem_take, ← bitAt_eq x j (by omega), ← bitAt_eq y j (by omega)]
  exact h j (by omega)
theorem lo_step {W L : Fm} {D : Nat} (hW : W.Good) (hL : L.Good) (A : Apart W L D) {j : Nat} (hj : j < W.ack.length) : (loM W L D j).sample (bitAt W.ack j) = (loM W L D (j + 1), loE W L D j) := by
  have hd := A.pos
  have h1 := A.ltL
  have h2 := A.ltW
  have r1 := arb_room hL
  have r2 := arb_room hW
  by_cases hlt : j < D
  · have e0 : loM W L D j = sdM L j := if_pos (by omega)
    have e1 : loM W L D (j + 1) = sdM L (j + 1) := if_pos (by omega)
    rw [e0, e1, A.eq j hlt, bitAt_eq _ _ (by omega), sd_step hL (by omega)]
    congr 1
    unfold loE
    by_cases h0 : j = 0
    · rw [if_pos h0, if_pos h0]
    · rw [if_neg h0, if_neg h0, if_pos hlt]
  · have e1 : loM W L D (j + 1) = hrM (sendM { idleM with waits := true, f := L } L D).done W (j + 1) := if_neg (by omega)
    by_cases hD : j = D
    · subst hD
      have e0 : loM W L j j = sendM { idleM with waits := true, f := L } L j := by
        unfold loM sdM
        rw [if_pos (Nat.le_refl _), if_neg (by omega)]
      have hE : loE W L j j = [⟨3, L, 0⟩] := by unfold loE; rw [if_neg (by omega), if_neg (by omega), if_pos rfl]
      have o : OnOk (sendM { idleM with waits := true, f := L } L j) := ⟨rfl, rfl, rfl, rfl, hd, by show j < L.ack.length; omega, rfl⟩
      have hs : ∀ c, (sendM { idleM with waits := true, f := L } L j).sample c = (sendM { idleM with waits := true, f := L } L j).sends c := by
        intro c
        unfold M.sample
        rw [if_neg (by show ¬ (1 : Int) = 0; decide), if_pos (by show (1 : Int) = 1; rfl), if_pos (by show true = true; rfl)]
      have hbl : L.ack[j]'(by omega) = true := by rw [← bitAt_eq L.ack j (by omega)]; exact A.l
      rw [e0, e1, hE, A.w, hs]
      rcases on_cases (m := sendM { idleM with waits := true, f := L } L j) hL o false with ⟨_, q⟩ | ⟨_, q, _⟩ | ⟨_, _, q, _⟩ | ⟨q, _⟩ | ⟨q, _⟩
      · rw [q]
        have hh : (sendM { idleM with waits := true, f := L } L j).done.hears false = (hrM (sendM { idleM with waits := true, f := L } L j).done W j).sample (W.ack[j]) := by
          have hb : W.ack[j] = false := by rw [← bitAt_eq W.ack j hj]; exact A.w
          have er : Rd.zero.all (L.ack.take j) = Rd.zero.all (W.ack.take j) := by rw [take_same (by omega) (by omega) A.eq]
          have em : hearM (sendM { idleM with waits := true, f := L } L j).done W j = (sendM { idleM with waits := true, f := L } L j).done := by
            unfold hearM
            rw [← er]
            rfl
          rw [hb, hr_mid (by omega), em]
          unfold M.sample
          rw [if_neg (by show ¬ (1 : Int) = 0; decide), if_pos (by show (1 : Int) = 1; rfl), if_neg (by show ¬ false = true; decide)]
        rw [hh, hr_next hW (by rfl) (by rfl) (by omega) hd]
        have hE2 : hrE W j = [] := by unfold hrE; rw [if_neg (by omega), if_neg (by omega)]
        rw [hE2]
        rfl
      · cases q
      · exact absurd ⟨rfl, by exact h1⟩ q
      · have : L.ack[j]'(by omega) = false := q.symm
        rw [hbl] at this; cases this
      · have : L.ack[j]'(by omega) = false := q.symm
        rw [hbl] at this; cases this
    · have e0 : loM W L D j = hrM (sendM { idleM with waits := true, f := L } L D).done W j := if_neg (by omega)
      have hE : loE W L D j = hrE W j := by unfold loE; rw [if_neg (by omega), if_neg (by omega), if_neg hD]; 
      rw [e0, e1, hE, bitAt_eq _ _ hj]
      by_cases hl : j + 1 < W.ack.length
      · exact hr_next hW (by rfl) (by rfl) hl (by omega)
      · exact hr_done hW (by omega) _
theorem lo_drive {W L : Fm} {D : Nat} (hW : W.Good) (hL : L.Good) (A : Apart W L D) {j : Nat} (hj : j < W.ack.length) : (loM W L D j).drive = if j ≤ D then bitAt L.ack j else !(decide (j + 9 = W.ack.length)) := by
  have hd := A.pos
  have h1 := A.ltL
  have r1 := arb_room hL
  unfold loM
  by_cases hlt : j ≤ D
  · rw [if_pos hlt, if_pos hlt]
    by_cases h0 : j = 0
    · subst h0
      rw [bitAt_eq _ _ (by omega), ack_get L (by omega)]
      rfl
    · have e : sdM L j = sendM { idleM with waits := true, f := L } L j := if_neg h0
      rw [e, drive_send hL (m := sendM { idleM with waits := true, f := L } L j) (j := j) rfl rfl rfl rfl (by omega), if_neg (by omega), bitAt_eq _ _ (by omega)]
  · rw [if_neg hlt, if_neg hlt]
    exact hr_drive hW hj
/-- The winner, the listener. -/
def wiM (W : Fm) (j : Nat) : M := if j < W.ack.length then sdM W j else { M.new with r := Rd.zero.all W.ack }
def wiE (W : Fm) (j : Nat) : List Ev := if j = 0 then [⟨6, Fm.zero, 0⟩] else if j + 1 = W.ack.length then [⟨1, W, 0⟩] else []
def liM (W : Fm) (j : Nat) : M := if j = 0 then idleM else hrM idleM W j
theorem wi_step {W : Fm} (hW : W.Good) {j : Nat} (hj : j < W.ack.length) : (wiM W j).sample (bitAt W.ack j) = (wiM W (j + 1), wiE W j) := by
  have hl := ack_long hW
  have e0 : wiM W j = sdM W j := if_pos hj
  rw [e0, bitAt_eq _ _ hj]
  unfold wiE
  by_cases h : j + 1 < W.ack.length
  · have e1 : wiM W (j + 1) = sdM W (j + 1) := if_pos h
    rw [e1, sd_step hW h, if_neg (show ¬ j + 1 = W.ack.length by omega)]
  · have e1 : wiM W (j + 1) = { M.new with r := Rd.zero.all W.ack } := if_neg h
    rw [e1, sd_last hW (by omega), if_neg (show ¬ j = 0 by omega), if_pos (by omega)]
theorem wi_drive {W : Fm} (hW : W.Good) {j : Nat} (hj : j < W.ack.length) : (wiM W j).drive = if j + 9 = W.ack.length then true else bitAt W.ack j := by
  have hl := ack_long hW
  have e0 : wiM W j = sdM W j := if_pos hj
  rw [e0, bitAt_eq _ _ hj]
  by_cases h0 : j = 0
  · subst h0
    rw [if_neg (by omega), ack_get W (by omega)]
    rfl
  · have e : sdM W j = sendM { idleM with waits := true, f := W } W j := if_neg h0
    rw [e, drive_send hW (m := sendM { idleM with waits := true, f := W } W j) (j := j) rfl rfl rfl rfl (by omega)]
theorem li_step {W : Fm} (hW : W.Good) {j : Nat} (hj : j < W.ack.length) : (liM W j).sample (bitAt W.ack j) = (liM W (j + 1), hrE W j) := by
  have hl := ack_long hW
  have e1 : liM W (j + 1) = hrM idleM W (j + 1) := if_neg (by omega)
  rw [e1, bitAt_eq _ _ hj]
  by_cases h0 : j = 0
  · subst h0
    rw [ack_get W (by omega)]
    exact hr_first hW rfl rfl rfl
  · have e0 : liM W j = hrM idleM W j := if_neg h0
    rw [e0]
    by_cases h : j + 1 < W.ack.length
    · exact hr_next hW rfl rfl h (by omega)
    · exact hr_done hW (by omega) _
theorem li_drive {W : Fm} (hW : W.Good) {j : Nat} (hj : j < W.ack.length) : (liM W j).drive = !(decide (j + 9 = W.ack.length)) := by
  have hl := ack_long hW
  by_cases h0 : j = 0
  · subst h0
    rw [decide_eq_false (by omega)]
    rfl
  · have e0 : liM W j = hrM idleM W j := if_neg h0
    rw [e0]
    exact hr_drive hW hj
theorem ack_at9 {f : Fm} {j : Nat} (hj : j + 9 = f.ack.length) : bitAt f.ack j = false := by
  have hl := ack_len f
  have e : j = (stuff f.S).length + 1 := by omega
  unfold bitAt Fm.ack
  rw [List.getD_eq_getElem?_getD, e, List.getElem?_append_right (by omega), Nat.add_sub_cancel_left]
  rfl
theorem two_wire {W L : Fm} {D : Nat} (hW : W.Good) (hL : L.Good) (A : Apart W L D) {j : Nat} (hj : j < W.ack.length) :
    ((wiM W j).drive && (loM W L D j).drive && (liM W j).drive) = bitAt W.ack j := by
  have r2 := arb_room hW
  have h2 := A.ltW
  rw [wi_drive hW hj, lo_drive hW hL A hj, li_drive hW hj]
  by_cases h9 : j + 9 = W.ack.length
  · rw [if_pos h9, decide_eq_true h9, ack_at9 h9]
    simp
  · rw [if_neg h9, decide_eq_false h9]
    by_cases hD : j ≤ D
    · rw [if_pos hD]
      by_cases hlt : j < D
      · rw [A.eq j hlt]; simp
      · have : j = D := by omega
        subst this
        rw [A.w]; rfl
    · rw [if_neg hD]; simp
theorem ack_short {f : Fm} (h : f.Good) : f.ack.length ≤ 157 := by
  obtain ⟨l, hl⟩ := S_first f
  have h2 := ack_len f
  have h3 : f.S.length ≤ 118 := by
    have := bodyL_length f.e f.i.toNat f.r f.d.data.toList
    have h4 := ok_len h.ok
    unfold Fm.S sumL
    rw [List.length_append, ofN_length, this]
    split <;> omega
  have e : stuff f.S = false :: stuffL 1 false l := by
    rw [hl]
    rfl
  have hb := stuffL_bound l 1 false (by decide) (by decide)
  have h5 : f.S.length = l.length + 1 := by rw [hl]; rfl
  rw [h2, e, List.length_cons]
  omega
end Go.Proofs.YtpkpnaedacefaaaGreat.MacW
