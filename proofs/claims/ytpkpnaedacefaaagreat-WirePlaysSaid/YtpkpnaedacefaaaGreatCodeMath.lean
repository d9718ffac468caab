/- What the reader makes of a frame's bits on the wire: plain mathematics on lists of Bools. -/
import Derived.Test.YtpkpnaedacefaaaGreatCodeFacts
import Derived.Test.YtpkpnaedacefaaaGreatCodeEncode
import Derived.Test.YtpkpnaedacefaaaGreatFrameMathB
namespace Go.Proofs.YtpkpnaedacefaaaGreat.Code
set_option linter.unusedVariables false
set_option linter.unusedSimpArgs false
open Go Go.Proofs.YtpkpnaedacefaaaGreat.Bits Go.Proofs.YtpkpnaedacefaaaGreat.BitsW Go.Proofs.YtpkpnaedacefaaaGreat.Frame Go.Proofs.YtpkpnaedacefaaaGreat.FrameW Go.Proofs.YtpkpnaedacefaaaGreat.CodeW

/-- Bits pushed one behind the other. -/
def Rd.all (r : Rd) : List Bool → Rd
  | [] => r
  | c :: l => Rd.all (r.push c).1 l
/-- None of them meets an error, and the frame isn't whole. -/
def Rd.fine (r : Rd) : List Bool → Prop
  | [] => True
  | c :: l => (r.push c).2 = 0 ∧ (r.push c).1.en ≠ 10 ∧ Rd.fine (r.push c).1 l
theorem all_append : ∀ (x y : List Bool) (r : Rd), r.all (x ++ y) = (r.all x).all y
  | [], _, _ => rfl
  | c :: x, y, r => all_append x y (r.push c).1
theorem fine_append : ∀ (x y : List Bool) (r : Rd), r.fine (x ++ y) ↔ r.fine x ∧ (r.all x).fine y
  | [], _, _ => by simp [Rd.fine, Rd.all]
  | c :: x, y, r => by
    have := fine_append x y (r.push c).1
    simp only [List.cons_append, Rd.fine, Rd.all, this, and_assoc]
theorem dec_fine : ∀ (x t : List Bool) (r : Rd) (i : Nat), r.fine x → decodeL r i (x ++ t) = decodeL (r.all x) (i + x.length) t
  | [], _, _, _, _ => rfl
  | c :: x, t, r, i, h => by
    have ih := dec_fine x t (r.push c).1 (i + 1) h.2.2
    rw [List.cons_append, decodeL, if_neg (by simp [h.1]), if_neg h.2.1, ih]
    simp only [Rd.all, List.length_cons]
    congr 1
    omega
theorem dec_short (x : List Bool) (r : Rd) (i : Nat) (h : r.fine x) : decodeL r i x = ((false, 0, false, []), i + x.length, 10) := by
  have := dec_fine x [] r i h
  rw [List.append_nil] at this
  rw [this]; rfl
theorem fine_step {r r' : Rd} {c : Bool} {l : List Bool} (h : r.push c = (r', 0)) (he : r'.en ≠ 10) (hl : r'.fine l) : r.fine (c :: l) := by
  refine ⟨by rw [h], by rw [h]; exact he, by rw [h]; exact hl⟩
theorem all_step {r r' : Rd} {c : Bool} {l : List Bool} {e : Nat} (h : r.push c = (r', e)) : r.all (c :: l) = r'.all l := by
  show Rd.all (r.push c).1 l = _
  rw [h]
theorem stuffL_cons (n : Nat) (b c : Bool) (l : List Bool) : stuffL n b (c :: l) = if runK n b c = 5 then c :: (!c) :: stuffL 1 (!c) l else c :: stuffL (runK n b c) c l := rfl
theorem stuffL_nil (n : Nat) (b : Bool) : stuffL n b [] = [] := rfl
theorem dec_step {r r' : Rd} {c : Bool} {l : List Bool} (i : Nat) (h : r.push c = (r', 0)) (he : r'.en ≠ 10) : decodeL r i (c :: l) = decodeL r' (i + 1) l := by
  rw [decodeL, h, if_neg (by simp), if_neg (by exact he)]
theorem dec_hit {r r' : Rd} {c : Bool} {l : List Bool} {e : Nat} (i : Nat) (h : r.push c = (r', e)) (he : e ≠ 0) : decodeL r i (c :: l) = ((false, 0, false, []), i, e) := by
  rw [decodeL, h, if_pos he]
theorem push_body (r : Rd) (c : Bool) (hin : r.inBits = true) (h5 : r.rn ≠ 5) :
    (r.need = 0 ∧ ∃ r', r.push c = (r', 12)) ∨
    (r.push c = (⟨runK r.rn r.rb c, c, r.b ++ [c], if r.need ≠ 0 then r.need else (needL (r.b ++ [c])).1, addC r.sum c, r.en, r.laid⟩, 0) ∧ (r.need = 0 → (needL (r.b ++ [c])).2 = 0)) := by
  have hp : r.push c = Rd.add { r with rn := runK r.rn r.rb c, rb := c } c := by
    unfold Rd.push
    rw [if_pos (.inl hin), if_neg h5]
  rw [hp]
  unfold Rd.add
  by_cases h0 : r.need ≠ 0
  · right
    exact ⟨by simp only [if_pos h0], fun h => absurd h h0⟩
  · have h0' : r.need = 0 := by omega
    by_cases h2 : (needL (r.b ++ [c])).2 ≠ 0
    · left
      have e12 : (needL (r.b ++ [c])).2 = 12 := (need_err (r.b ++ [c])).resolve_left h2
      refine ⟨h0', ?_⟩
      simp only [if_neg h0, if_pos h2, e12]
      exact ⟨_, rfl⟩
    · right
      exact ⟨by simp only [if_neg h0, if_neg h2], fun _ => by simpa using h2⟩
/-- What is told with an error. -/
theorem dec_err : ∀ (l : List Bool) (r : Rd) (i : Nat), (decodeL r i l).2.2 ≠ 0 → (decodeL r i l).1 = (false, 0, false, []) ∧ i ≤ (decodeL r i l).2.1 ∧ (decodeL r i l).2.1 ≤ i + l.length
  | [], r, i, _ => ⟨rfl, Nat.le_refl _, Nat.le_refl _⟩
  | c :: l, r, i, h => by
    unfold decodeL at h ⊢
    by_cases h1 : (r.push c).2 ≠ 0
    · rw [if_pos h1]; exact ⟨rfl, Nat.le_refl _, by simp⟩
    · rw [if_neg h1] at h ⊢
      by_cases h2 : (r.push c).1.en = 10
      · rw [if_pos h2] at h; exact absurd rfl h
      · rw [if_neg h2] at h ⊢
        have := dec_err l _ (i + 1) h
        exact ⟨this.1, by omega, by simp only [List.length_cons]; omega⟩

/-- Bits of which the first ones are a frame's, the last fifteen its sum's. -/
structure Fr (S : List Bool) (H L : Nat) : Prop where
  len : S.length = L + 15
  le : H ≤ L
  pos : 0 < H
  need : ∀ k, k ≤ S.length → needL (S.take k) = if k < H then (0, 0) else (L, 0)
theorem fr_body (e : Bool) (n : Nat) (r : Bool) (d : List UInt8) (z : List Bool) (hz : z.length = 15) (hd : d.length ≤ 8) (hr : r = true → d = []) :
    Fr (bodyL e n r d ++ z) (hdr e) (bodyL e n r d).length := by
  refine ⟨by rw [List.length_append, hz], by rw [bodyL_length]; unfold hdr; omega, by unfold hdr; split <;> omega, fun k hk => need_take e n r d z hd hr k hk⟩

/-- The reader behind the bits p, the last k of all alike being b. -/
def st (H L : Nat) (p : List Bool) (k : Nat) (b : Bool) : Rd := ⟨k, b, p, if p.length < H then 0 else L, crcN p, 0, false⟩
theorem st_en (H L : Nat) (p : List Bool) (k : Nat) (b : Bool) : (st H L p k b).en ≠ 10 := by show (0 : Nat) ≠ 10; omega
theorem st_in {S : List Bool} {H L : Nat} (F : Fr S H L) (p : List Bool) (k : Nat) (b : Bool) (hp : p.length ≤ S.length) : (st H L p k b).inBits = decide (p.length < S.length) := by
  have h1 := F.len; have h2 := F.le; have h3 := F.pos
  unfold Rd.inBits st
  by_cases h : p.length < H
  · simp [h]; omega
  · have : L ≠ 0 := by omega
    simp [h, this, h1]
theorem push_plain {S : List Bool} {H L : Nat} (F : Fr S H L) (p q : List Bool) (c : Bool) (hs : p ++ c :: q = S) (k : Nat) (b : Bool) (hk : k ≠ 5) :
    (st H L p k b).push c = (st H L (p ++ [c]) (runK k b c) c, 0) := by
  have hl : S.length = p.length + 1 + q.length := by rw [← hs]; simp; omega
  have hin : (st H L p k b).inBits = true := by rw [st_in F p k b (by omega)]; simp; omega
  have h2 := F.le; have h3 := F.pos
  have hsum : addC (crcN p) c = crcN (p ++ [c]) := (crcN_snoc p c).symm
  have hneed := F.need (p.length + 1) (by omega)
  have htake : S.take (p.length + 1) = p ++ [c] := by
    rw [← hs, show p ++ c :: q = (p ++ [c]) ++ q by simp, show p.length + 1 = (p ++ [c]).length by simp, List.take_left]
  rw [htake] at hneed
  unfold Rd.push
  rw [if_pos (.inl hin), if_neg (show ¬ (st H L p k b).rn = 5 from hk)]
  unfold Rd.add
  have hlen : (p ++ [c]).length = p.length + 1 := by simp
  by_cases h : p.length < H
  · have hn0 : (st H L p k b).need = 0 := if_pos h
    rw [if_neg (by simp [hn0])]
    show (if (needL (p ++ [c])).2 ≠ 0 then _ else _) = _
    have e2 : (needL (p ++ [c])).2 = 0 := by rw [hneed]; split <;> rfl
    rw [if_neg (by simp [e2])]
    have e1 : (needL (p ++ [c])).1 = if (p ++ [c]).length < H then 0 else L := by rw [hneed, hlen]; split <;> rfl
    unfold st
    simp only [hsum, e1]
  · have hn : (st H L p k b).need = L := if_neg h
    rw [if_pos (show (st H L p k b).need ≠ 0 by rw [hn]; omega)]
    unfold st
    have h4 : ¬ (p ++ [c]).length < H := by omega
    simp only [hsum, if_neg h, if_neg h4]
theorem push_laid {S : List Bool} {H L : Nat} (F : Fr S H L) (p : List Bool) (hp : p.length ≤ S.length) (b : Bool) :
    (st H L p 5 b).push (!b) = ({ st H L p 1 (!b) with laid := decide (p.length = S.length) }, 0) := by
  unfold Rd.push
  rw [if_pos (.inr ⟨rfl, rfl, rfl⟩), if_pos (show (st H L p 5 b).rn = 5 from rfl), if_neg (show ¬ ((!b) = (st H L p 5 b).rb) by show ¬ ((!b) = b); cases b <;> decide)]
  have hlaid : (!(st H L p 5 b).inBits) = decide (p.length = S.length) := by
    rw [st_in F p 5 b hp]
    by_cases h : p.length = S.length
    · simp [h]
    · have : p.length < S.length := by omega
      simp [h, this]
  rw [hlaid]; rfl
/-- All bits of a frame, and those laid between, are taken. -/
theorem stuff_pushes {S : List Bool} {H L : Nat} (F : Fr S H L) : ∀ (q p : List Bool) (k : Nat) (b : Bool), p ++ q = S → k ≤ 4 →
    (st H L p k b).fine (stuffL k b q) ∧ ∃ k' b' ld, k' ≤ 4 ∧ (st H L p k b).all (stuffL k b q) = ⟨k', b', S, L, crcN S, 0, ld⟩
  | [], p, k, b, hs, hk => by
    rw [List.append_nil] at hs
    subst hs
    have h1 := F.len; have h2 := F.le
    refine ⟨trivial, k, b, false, hk, ?_⟩
    show st H L p k b = _
    unfold st
    rw [if_neg (by omega)]
  | c :: q, p, k, b, hs, hk => by
    have hp := push_plain F p q c hs k b (by omega)
    have hs2 : (p ++ [c]) ++ q = S := by rw [← hs]; simp
    have hl2 : (p ++ [c]).length ≤ S.length := by rw [← hs2]; simp
    rw [stuffL_cons]
    by_cases h5 : runK k b c = 5
    · rw [if_pos h5]
      rw [h5] at hp
      have hq := push_laid F (p ++ [c]) hl2 c
      by_cases hq0 : q = []
      · subst hq0
        rw [List.append_nil] at hs2
        subst hs2
        have h1 := F.len; have h2 := F.le
        refine ⟨fine_step hp (st_en _ _ _ _ _) (fine_step hq (by show (0 : Nat) ≠ 10; omega) trivial), 1, !c, true, by omega, ?_⟩
        rw [all_step hp, all_step hq, stuffL_nil]
        show ({ st H L (p ++ [c]) 1 (!c) with laid := decide ((p ++ [c]).length = (p ++ [c]).length) } : Rd) = _
        unfold st
        rw [if_neg (by omega), decide_eq_true rfl]
      · have hne : ¬ (p ++ [c]).length = S.length := by
          intro h
          have : S.length = (p ++ [c]).length + q.length := by rw [← hs2, List.length_append]
          exact hq0 (List.eq_nil_of_length_eq_zero (by omega))
        have e : ({ st H L (p ++ [c]) 1 (!c) with laid := decide ((p ++ [c]).length = S.length) } : Rd) = st H L (p ++ [c]) 1 (!c) := by
          rw [decide_eq_false hne]; rfl
        rw [e] at hq
        obtain ⟨i1, i2⟩ := stuff_pushes F q (p ++ [c]) 1 (!c) hs2 (by omega)
        exact ⟨fine_step hp (st_en _ _ _ _ _) (fine_step hq (st_en _ _ _ _ _) i1), by rw [all_step hp, all_step hq]; exact i2⟩
    · rw [if_neg h5]
      have hk2 := runK_four k b c hk h5
      obtain ⟨i1, i2⟩ := stuff_pushes F q (p ++ [c]) (runK k b c) c hs2 hk2.2
      exact ⟨fine_step hp (st_en _ _ _ _ _) i1, by rw [all_step hp]; exact i2⟩
/-- The reader within a frame's bits. -/
theorem stuff_mid {S : List Bool} {H L : Nat} (F : Fr S H L) : ∀ (q p : List Bool) (k : Nat) (b : Bool) (j : Nat), p ++ q = S → k ≤ 4 → j < (stuffL k b q).length →
    ∃ p' q' k' b', p' ++ q' = S ∧ k' ≤ 5 ∧ (st H L p k b).all ((stuffL k b q).take j) = st H L p' k' b' ∧
      (stuffL k b q).drop j = (if k' = 5 then (!b') :: stuffL 1 (!b') q' else stuffL k' b' q') ∧ (b :: stuffL k b q)[j]? = some b'
  | q, p, k, b, 0, hs, hk, _ => by
    refine ⟨p, q, k, b, hs, by omega, rfl, ?_, rfl⟩
    rw [if_neg (by omega)]; rfl
  | [], p, k, b, j + 1, hs, hk, hj => by simp [stuffL] at hj
  | c :: q, p, k, b, j + 1, hs, hk, hj => by
    have hp := push_plain F p q c hs k b (by omega)
    have hs2 : (p ++ [c]) ++ q = S := by rw [← hs]; simp
    have hl2 : (p ++ [c]).length ≤ S.length := by rw [← hs2]; simp
    rw [stuffL_cons] at hj ⊢
    by_cases h5 : runK k b c = 5
    · rw [if_pos h5] at hj ⊢
      rw [h5] at hp
      cases j with
      | zero =>
        refine ⟨p ++ [c], q, 5, c, hs2, by omega, ?_, ?_, rfl⟩
        · rw [List.take_succ_cons, List.take_zero, all_step hp]; rfl
        · rw [if_pos rfl]; rfl
      | succ j =>
        have hq := push_laid F (p ++ [c]) hl2 c
        have hq0 : q ≠ [] := by rintro rfl; rw [stuffL_nil] at hj; simp only [List.length_cons, List.length_nil] at hj; omega
        have hne : ¬ (p ++ [c]).length = S.length := by
          intro h
          have : S.length = (p ++ [c]).length + q.length := by rw [← hs2, List.length_append]
          exact hq0 (List.eq_nil_of_length_eq_zero (by omega))
        have e : ({ st H L (p ++ [c]) 1 (!c) with laid := decide ((p ++ [c]).length = S.length) } : Rd) = st H L (p ++ [c]) 1 (!c) := by
          rw [decide_eq_false hne]; rfl
        rw [e] at hq
        obtain ⟨p', q', k', b', i1, i2, i3, i4, i5⟩ := stuff_mid F q (p ++ [c]) 1 (!c) j hs2 (by omega) (by simpa using hj)
        refine ⟨p', q', k', b', i1, i2, ?_, by rw [List.drop_succ_cons, List.drop_succ_cons]; exact i4, by rw [List.getElem?_cons_succ, List.getElem?_cons_succ]; exact i5⟩
        rw [List.take_succ_cons, List.take_succ_cons, all_step hp, all_step hq]
        exact i3
    · rw [if_neg h5] at hj ⊢
      have hk2 := runK_four k b c hk h5
      obtain ⟨p', q', k', b', i1, i2, i3, i4, i5⟩ := stuff_mid F q (p ++ [c]) (runK k b c) c j hs2 hk2.2 (by simpa using hj)
      refine ⟨p', q', k', b', i1, i2, ?_, by rw [List.drop_succ_cons]; exact i4, by rw [List.getElem?_cons_succ]; exact i5⟩
      rw [List.take_succ_cons, all_step hp]
      exact i3

/-- Behind the sum. -/
theorem push_tail (r : Rd) (c : Bool) (h1 : r.inBits = false) (h2 : r.rn ≠ 5) : r.push c = r.tail c := by
  unfold Rd.push
  rw [if_neg (by simp [h1, h2])]
def fin (k : Nat) (b : Bool) (S : List Bool) (L : Nat) (en : Nat) (ld : Bool) : Rd := ⟨k, b, S, L, crcN S, en, ld⟩
theorem fin_in {S : List Bool} {H L : Nat} (F : Fr S H L) (k : Nat) (b : Bool) (en : Nat) (ld : Bool) : (fin k b S L en ld).inBits = false := by
  have h1 := F.len; have h2 := F.le; have h3 := F.pos
  unfold Rd.inBits fin
  have : L ≠ 0 := by omega
  simp [this, h1]
theorem fin_push {S : List Bool} {H L : Nat} (F : Fr S H L) (k : Nat) (b : Bool) (en : Nat) (ld : Bool) (hk : k ≤ 4) (c : Bool) :
    (fin k b S L en ld).push c = (fin k b S L (en + 1) ld, if en + 1 = 2 then 0 else if c = false then 12 else if en + 1 = 3 ∧ crcN S ≠ 0 then 40 else 0) := by
  rw [push_tail _ _ (fin_in F k b en ld) (by show k ≠ 5; omega)]
  unfold Rd.tail Rd.right
  rw [fin_in F]
  have e : (en + 1 = 3 ∧ (!false && crcN S == 0) = false) ↔ (en + 1 = 3 ∧ crcN S ≠ 0) := by simp
  have e2 : (if en + 1 = 3 ∧ (!false && crcN S == 0) = false then 40 else 0) = (if en + 1 = 3 ∧ crcN S ≠ 0 then 40 else 0) := by
    by_cases h : en + 1 = 3 ∧ crcN S ≠ 0
    · rw [if_pos h, if_pos (e.2 h)]
    · rw [if_neg h, if_neg (fun x => h (e.1 x))]
  show (fin k b S L (en + 1) ld, if en + 1 = 2 then 0 else if c = false then 12 else if en + 1 = 3 ∧ (!false && crcN S == 0) = false then 40 else 0) = _
  rw [e2]
/-- A frame's last bits. -/
def ends (F : (Bool × Nat × Bool × List UInt8)) (bad : Bool) (i : Nat) : Nat → List Bool → (Bool × Nat × Bool × List UInt8) × Nat × Nat
  | _, [] => ((false, 0, false, []), i, 10)
  | en, c :: l => if en + 1 = 2 then ends F bad (i + 1) (en + 1) l else if c = false then ((false, 0, false, []), i, 12) else if en + 1 = 3 ∧ bad = true then ((false, 0, false, []), i, 40)
      else if en + 1 = 10 then (F, i + 1, 0) else ends F bad (i + 1) (en + 1) l
theorem fin_ends {S : List Bool} {H L : Nat} (F : Fr S H L) (k : Nat) (b ld : Bool) (hk : k ≤ 4) : ∀ (t : List Bool) (en i : Nat),
    decodeL (fin k b S L en ld) i t = ends (parseL S).1 (decide (crcN S ≠ 0)) i en t
  | [], _, _ => rfl
  | c :: t, en, i => by
    have ih := fin_ends F k b ld hk t (en + 1) (i + 1)
    rw [decodeL, fin_push F k b en ld hk c, ends]
    by_cases h2 : en + 1 = 2
    · rw [if_pos h2, if_pos h2, if_neg (by simp), if_neg (by show ¬ en + 1 = 10; omega), ih]
    · simp only [if_neg h2]
      by_cases hc : c = false
      · simp only [if_pos hc]; rw [if_pos (by decide)]
      · simp only [if_neg hc]
        by_cases h3 : en + 1 = 3 ∧ crcN S ≠ 0
        · have h3' : en + 1 = 3 ∧ decide (crcN S ≠ 0) = true := ⟨h3.1, by simpa using h3.2⟩
          simp only [if_pos h3, if_pos h3']
          rw [if_pos (by decide)]
        · have h3' : ¬ (en + 1 = 3 ∧ decide (crcN S ≠ 0) = true) := by simpa using h3
          simp only [if_neg h3, if_neg h3']
          rw [if_neg (by simp)]
          by_cases h10 : en + 1 = 10
          · rw [if_pos h10, if_pos (by exact h10)]; rfl
          · rw [if_neg h10, if_neg (by exact h10), ih]
/-- All bits of a frame, and whatever is behind them. -/
theorem dec_stuff {S : List Bool} {H L : Nat} (F : Fr S H L) (t : List Bool) : decodeL Rd.zero 0 (stuff S ++ t) = ends (parseL S).1 (decide (crcN S ≠ 0)) (stuff S).length 0 t := by
  have h3 := F.pos
  obtain ⟨h1, k, b, ld, hk, h2⟩ := stuff_pushes F S [] 0 false rfl (by omega)
  have e : st H L [] 0 false = Rd.zero := by unfold st Rd.zero; rw [if_pos (by simpa using h3)]; rfl
  rw [e] at h1 h2
  unfold stuff
  rw [dec_fine _ _ _ _ h1, h2, Nat.zero_add]
  exact fin_ends F k b ld hk t 0 _
theorem stuff_fine {S : List Bool} {H L : Nat} (F : Fr S H L) : Rd.zero.fine (stuff S) := by
  have h3 := F.pos
  obtain ⟨h1, _⟩ := stuff_pushes F S [] 0 false rfl (by omega)
  have e : st H L [] 0 false = Rd.zero := by unfold st Rd.zero; rw [if_pos (by simpa using h3)]; rfl
  rw [e] at h1
  exact h1
theorem fine_take (x : List Bool) (r : Rd) (j : Nat) (h : r.fine x) : r.fine (x.take j) := by
  have := (fine_append (x.take j) (x.drop j) r).1 (by rw [List.take_append_drop]; exact h)
  exact this.1
/-- Bits that come to a frame have no error ahead of its end. -/
theorem dec_ok : ∀ (l : List Bool) (r : Rd) (i : Nat), (decodeL r i l).2.2 = 0 → i < (decodeL r i l).2.1 ∧ (decodeL r i l).2.1 ≤ i + l.length ∧
    ∀ k, i + k < (decodeL r i l).2.1 → r.fine (l.take k)
  | [], r, i, h => by cases h
  | c :: l, r, i, h => by
    unfold decodeL at h ⊢
    by_cases h1 : (r.push c).2 ≠ 0
    · rw [if_pos h1] at h; exact absurd h h1
    · rw [if_neg h1] at h ⊢
      by_cases h2 : (r.push c).1.en = 10
      · rw [if_pos h2]
        refine ⟨by show i < i + 1; omega, by simp, fun k hk => ?_⟩
        have : k = 0 := by have : i + k < i + 1 := hk; omega
        subst this; exact trivial
      · rw [if_neg h2] at h ⊢
        obtain ⟨i1, i2, i3⟩ := dec_ok l _ (i + 1) h
        refine ⟨by omega, by simp only [List.length_cons]; omega, fun k hk => ?_⟩
        cases k with
        | zero => exact trivial
        | succ k => exact ⟨by simpa using h1, h2, i3 k (by omega)⟩
theorem tail_ok (F : (Bool × Nat × Bool × List UInt8)) (i : Nat) (a : Bool) (more : List Bool) :
    ends F false i 0 (true :: a :: (List.replicate 8 true ++ more)) = (F, i + 10, 0) := by
  simp [ends, List.replicate]
theorem tail_bad (F : (Bool × Nat × Bool × List UInt8)) (bad : Bool) (i j : Nat) (a : Bool) (hj : j < 10) (h1 : j ≠ 1) (hb : bad = true → j < 2) :
    ends F bad i 0 ((true :: a :: List.replicate 8 true).set j false) = ((false, 0, false, []), i + j, 12) := by
  have : j = 0 ∨ j = 2 ∨ j = 3 ∨ j = 4 ∨ j = 5 ∨ j = 6 ∨ j = 7 ∨ j = 8 ∨ j = 9 := by omega
  rcases this with rfl | rfl | rfl | rfl | rfl | rfl | rfl | rfl | rfl <;> cases bad <;> simp_all [ends, List.replicate]
theorem tail_sum (F : (Bool × Nat × Bool × List UInt8)) (i : Nat) (a : Bool) (more : List Bool) :
    ends F true i 0 (true :: a :: true :: more) = ((false, 0, false, []), i + 2, 40) := by
  simp [ends]
theorem sumL_fr (e : Bool) (n : Nat) (r : Bool) (d : List UInt8) (hd : d.length ≤ 8) (hr : r = true → d = []) : Fr (sumL (bodyL e n r d)) (hdr e) (bodyL e n r d).length :=
  fr_body e n r d _ (ofN_length _ _) hd hr
theorem sumL_zero (b : List Bool) : crcN (sumL b) = 0 := crc_self b
/-- Six bits alike are told at the sixth, or there is no such frame. -/
theorem need_step (l : List Bool) (c : Bool) (h : needL l = (0, 0)) (h2 : (needL (l ++ [c])).1 ≠ 0) : l.length < (needL (l ++ [c])).1 := by
  have hge : (needL (l ++ [c])).2 = 0 := by
    rcases need_err (l ++ [c]) with h3 | h3
    · exact h3
    · exfalso
      apply h2
      unfold needL at h3 ⊢
      split
      · rfl
      · rename_i g1
        rw [if_neg g1] at h3
        split
        · rfl
        · rename_i g2
          rw [if_neg g2] at h3
          split
          · rename_i g3
            rw [if_pos g3] at h3
            split
            · rename_i g4
              rw [if_pos g4] at h3
              split at h3
              · cases h3
              · split at h3 <;> cases h3
            · rfl
          · rename_i g3
            rw [if_neg g3] at h3
            split at h3
            · cases h3
            · split at h3 <;> cases h3
  obtain ⟨g1, g2⟩ := need_ge (l ++ [c]) hge h2
  by_cases h14 : l.length ≤ 13
  · omega
  have h38 := need_zero h
  have hg : (l ++ [c]).getD 13 false = l.getD 13 false := by
    rw [List.getD_eq_getElem?_getD, List.getD_eq_getElem?_getD, List.getElem?_append_left (by omega)]
  by_cases h13 : l.getD 13 false = true
  · have := g1 (by rw [hg]; exact h13); omega
  · have h0 : l.getD 0 false = false := by
      by_cases h0 : l.getD 0 false = true
      · unfold needL at h
        rw [if_pos ⟨by omega, h0⟩] at h
        cases h
      · simpa using h0
    have := nl_s l (by omega) h0 (by simpa using h13)
    rw [this] at h
    by_cases h19 : l.length < 19
    · omega
    · rw [if_neg h19] at h
      split at h
      · cases h
      · simp at h
theorem six_more (c : Bool) : ∀ (f : Nat) (r : Rd) (i : Nat), r.rn + f = 5 → 1 ≤ r.rn → r.rb = c → r.en = 0 → r.laid = false →
    (r.need = 0 ∧ needL r.b = (0, 0) ∨ r.need ≠ 0 ∧ r.b.length + f ≤ r.need + 15) →
    ∃ m, m ≤ i + f ∧ (decodeL r i (List.replicate (f + 1) c) = ((false, 0, false, []), i + f, 20) ∨ decodeL r i (List.replicate (f + 1) c) = ((false, 0, false, []), m, 12))
  | 0, r, i, h5, h1, hb, he, hl, hn => by
    refine ⟨i, by omega, .inl ?_⟩
    have hp : r.push c = (r, 20) := by
      unfold Rd.push
      rw [if_pos (.inr ⟨by omega, hl, he⟩), if_pos (by omega), if_pos hb.symm]
    exact dec_hit i hp (by decide)
  | f + 1, r, i, h5, h1, hb, he, hl, hn => by
    have hin : r.inBits = true := by
      unfold Rd.inBits
      rcases hn with ⟨h0, _⟩ | ⟨h0, h2⟩
      · simp [h0]
      · simp only [Bool.or_eq_true, decide_eq_true_eq]; right; omega
    have hk : runK r.rn r.rb c = r.rn + 1 := by rw [hb]; exact runK_same _ _ (by omega)
    rw [List.replicate_succ]
    rcases push_body r c hin (by omega) with ⟨h0, r', hp⟩ | ⟨hp, h0⟩
    · exact ⟨i, by omega, .inr (dec_hit i hp (by decide))⟩
    · rw [hk] at hp
      have hn3 : ((if r.need ≠ 0 then r.need else (needL (r.b ++ [c])).1) = 0 ∧ needL (r.b ++ [c]) = (0, 0)) ∨ ((if r.need ≠ 0 then r.need else (needL (r.b ++ [c])).1) ≠ 0 ∧ (r.b ++ [c]).length + f ≤ (if r.need ≠ 0 then r.need else (needL (r.b ++ [c])).1) + 15) := by
        rcases hn with ⟨hz, hn⟩ | ⟨hz, hn⟩
        · rw [if_neg (by omega)]
          by_cases h3 : (needL (r.b ++ [c])).1 = 0
          · exact .inl ⟨h3, Prod.ext h3 (h0 hz)⟩
          · have := need_step r.b c hn h3
            exact .inr ⟨h3, by rw [List.length_append, List.length_singleton]; omega⟩
        · rw [if_pos hz]
          exact .inr ⟨hz, by rw [List.length_append, List.length_singleton]; omega⟩
      obtain ⟨m, hm, h⟩ := six_more c f ⟨r.rn + 1, c, r.b ++ [c], if r.need ≠ 0 then r.need else (needL (r.b ++ [c])).1, addC r.sum c, r.en, r.laid⟩ (i + 1) (by show r.rn + 1 + f = 5; omega) (by show 1 ≤ r.rn + 1; omega) rfl he hl hn3
      rw [dec_step i hp (by show r.en ≠ 10; omega)]
      refine ⟨m, by omega, ?_⟩
      rw [show i + (f + 1) = i + 1 + f by omega]
      exact h
theorem six_from {S : List Bool} {H L : Nat} (F : Fr S H L) (p q : List Bool) (hs : p ++ q = S) (k : Nat) (b : Bool) (i : Nat) (hk : k ≤ 5) (hq : 6 ≤ (if k = 5 then (!b) :: stuffL 1 (!b) q else stuffL k b q).length) :
    ∃ m, m ≤ i + 5 ∧ (decodeL (st H L p k b) i (List.replicate 6 (!b)) = ((false, 0, false, []), i + 5, 20) ∨ decodeL (st H L p k b) i (List.replicate 6 (!b)) = ((false, 0, false, []), m, 12)) := by
  have hl : p.length + q.length = L + 15 := by rw [← F.len, ← hs]; simp
  have f1 := F.le; have f2 := F.pos; have f3 := F.len
  have hneed : ∀ x, x.length ≤ S.length → x = S.take x.length → ((if x.length < H then 0 else L) = 0 ∧ needL x = (0, 0)) ∨ ((if x.length < H then 0 else L) ≠ 0) := by
    intro x hx ht
    by_cases h : x.length < H
    · left
      have := F.need x.length hx
      rw [← ht, if_pos h] at this
      exact ⟨if_pos h, this⟩
    · right; rw [if_neg h]; omega
  by_cases h5 : k = 5
  · subst h5
    rw [if_pos rfl] at hq
    have hb := stuffL_bound q 1 (!b) (by omega) (by omega)
    simp only [List.length_cons] at hq
    have hq4 : 4 ≤ q.length := by omega
    have e : ({ st H L p 1 (!b) with laid := decide (p.length = S.length) } : Rd) = st H L p 1 (!b) := by
      rw [decide_eq_false (by omega)]; rfl
    have hp := push_laid F p (by omega) b
    rw [e] at hp
    rw [show (6 : Nat) = 5 + 1 from rfl, List.replicate_succ, dec_step i hp (st_en _ _ _ _ _)]
    obtain ⟨m, hm, h⟩ := six_more (!b) 4 (st H L p 1 (!b)) (i + 1) rfl (Nat.le_refl _) rfl rfl rfl (by
      rcases hneed p (by omega) (by rw [← hs, List.take_left]) with h | h
      · exact .inl h
      · refine .inr ⟨h, ?_⟩
        have e2 : (st H L p 1 (!b)).need = L := by
          show (if p.length < H then 0 else L) = L
          by_cases h7 : p.length < H
          · exact absurd (if_pos h7) h
          · exact if_neg h7
        rw [e2]
        show p.length + 4 ≤ L + 15
        omega)
    exact ⟨m, by omega, h⟩
  · rw [if_neg h5] at hq
    have hq5 : 5 ≤ q.length := by
      by_cases h1 : 1 ≤ k
      · have hb := stuffL_bound q k b h1 (by omega); omega
      · cases q with
        | nil => simp [stuffL] at hq
        | cons c q =>
          have h0 : k = 0 := by omega
          subst h0
          have e1 : runK 0 b c = 1 := by unfold runK; rw [if_neg (by omega)]
          rw [stuffL_cons, e1, if_neg (by omega)] at hq
          have hb := stuffL_bound q 1 c (by omega) (by omega)
          simp only [List.length_cons] at hq ⊢
          omega
    have hin : (st H L p k b).inBits = true := by rw [st_in F p k b (by omega)]; simp; omega
    have hk1 : runK k b (!b) = 1 := runK_other _ _ _ (by cases b <;> decide)
    rw [show (6 : Nat) = 5 + 1 from rfl, List.replicate_succ]
    rcases push_body (st H L p k b) (!b) hin h5 with ⟨h0, r', hp⟩ | ⟨hp, h0⟩
    · exact ⟨i, by omega, .inr (dec_hit i hp (by decide))⟩
    · rw [show runK (st H L p k b).rn (st H L p k b).rb (!b) = 1 from hk1] at hp
      have hN : (st H L p k b).need = if p.length < H then 0 else L := rfl
      have hB : (st H L p k b).b = p := rfl
      rw [hN, hB] at hp
      rw [hN, hB] at h0
      have hn3 : ((if (if p.length < H then 0 else L) ≠ 0 then (if p.length < H then 0 else L) else (needL (p ++ [!b])).1) = 0 ∧ needL (p ++ [!b]) = (0, 0)) ∨
          ((if (if p.length < H then 0 else L) ≠ 0 then (if p.length < H then 0 else L) else (needL (p ++ [!b])).1) ≠ 0 ∧ (p ++ [!b]).length + 4 ≤ (if (if p.length < H then 0 else L) ≠ 0 then (if p.length < H then 0 else L) else (needL (p ++ [!b])).1) + 15) := by
        by_cases hH : p.length < H
        · simp only [if_pos hH] at h0 ⊢
          rw [if_neg (by omega)]
          have hz := F.need p.length (by omega)
          rw [if_pos hH, ← hs, List.take_left] at hz
          by_cases h3 : (needL (p ++ [!b])).1 = 0
          · exact .inl ⟨h3, Prod.ext h3 (h0 trivial)⟩
          · have := need_step p (!b) hz h3
            exact .inr ⟨h3, by rw [List.length_append, List.length_singleton]; omega⟩
        · simp only [if_neg hH]
          rw [if_pos (by omega)]
          exact .inr ⟨by omega, by rw [List.length_append, List.length_singleton]; omega⟩
      obtain ⟨m, hm, h⟩ := six_more (!b) 4 ⟨1, !b, p ++ [!b], if (if p.length < H then 0 else L) ≠ 0 then if p.length < H then 0 else L else (needL (p ++ [!b])).1, addC (crcN p) (!b), 0, false⟩ (i + 1) (by show 1 + 4 = 5; omega) (by show 1 ≤ 1; omega) rfl rfl rfl hn3
      rw [dec_step i hp (by show (0 : Nat) ≠ 10; omega)]
      exact ⟨m, by omega, h⟩
/-- Six bits alike within a frame. -/
theorem dec_six {S : List Bool} {H L : Nat} (F : Fr S H L) (k : Nat) (hk : 1 ≤ k) (hk2 : k + 6 ≤ (stuff S).length) (c : Bool) (hc : (stuff S)[k - 1]? = some (!c)) :
    ∃ m, m ≤ k + 5 ∧ (decodeL Rd.zero 0 ((stuff S).take k ++ List.replicate 6 c) = ((false, 0, false, []), k + 5, 20) ∨ decodeL Rd.zero 0 ((stuff S).take k ++ List.replicate 6 c) = ((false, 0, false, []), m, 12)) := by
  have h3 := F.pos
  have e : st H L [] 0 false = Rd.zero := by unfold st Rd.zero; rw [if_pos (by simpa using h3)]; rfl
  obtain ⟨p, q, k', b', i1, i2, i3, i4, i5⟩ := stuff_mid F S [] 0 false k rfl (by omega) (by unfold stuff at hk2; omega)
  rw [e] at i3
  have hfine := fine_take _ _ k (stuff_fine F)
  rw [dec_fine _ _ _ _ hfine]
  rw [show (stuffL 0 false S).take k = (stuff S).take k from rfl] at i3
  rw [i3]
  have hb : b' = !c := by
    obtain ⟨k, rfl⟩ : ∃ j, k = j + 1 := ⟨k - 1, by omega⟩
    rw [List.getElem?_cons_succ] at i5
    rw [Nat.add_sub_cancel] at hc
    unfold stuff at hc
    rw [hc] at i5
    exact (Option.some.inj i5).symm
  subst hb
  have hlen : ((stuff S).take k).length = k := by rw [List.length_take]; omega
  rw [hlen, Nat.zero_add]
  have := six_from F p q i1 k' (!c) k i2 (by rw [← i4, List.length_drop]; unfold stuff at hk2; omega)
  simpa using this
end Go.Proofs.YtpkpnaedacefaaaGreat.Code
