/- The reader and the document's one go together: bit by bit. -/
import Derived.Test.YtpkpnaedacefaaaGreatCodeMath
import Derived.Test.YtpkpnaedacefaaaGreatStuffA
namespace Go.Proofs.YtpkpnaedacefaaaGreat.Code
set_option linter.unusedVariables false
set_option linter.unusedSimpArgs false
open Go Go.Proofs.YtpkpnaedacefaaaGreat.Bits Go.Proofs.YtpkpnaedacefaaaGreat.BitsW Go.Proofs.YtpkpnaedacefaaaGreat.Frame Go.Proofs.YtpkpnaedacefaaaGreat.FrameW

structure Link (r : Rd) (q : R3) : Prop where
  un : unstuffL 0 false 0 q.run = (r.b, r.rn, r.rb, none)
  plain : q.plain = r.b
  sum : r.sum = crcN r.b
  inv : r.Inv
  need : r.need ≠ 0 → needL r.b = (r.need, 0)
  len : r.need ≠ 0 → r.b.length ≤ r.need + 15
  op : r.inBits = true ∨ r.rn = 5 → r.en = 0 ∧ r.laid = false
  want : q.want = if r.need ≠ 0 ∧ r.need ≤ r.b.length then (r.need : Int) else -1
  tail : q.tail = if r.inBits = true ∨ r.rn = 5 then -1 else (r.en : Int)
  F : 0 ≤ q.want → q.F = (parseL r.b).1
theorem link_zero : Link Rd.zero R3.new :=
  ⟨rfl, rfl, rfl, Rd.zero_inv, fun h => absurd rfl h, fun h => absurd rfl h, fun _ => ⟨rfl, rfl⟩, rfl, rfl, fun h => absurd h (by decide)⟩
theorem inBits_iff (r : Rd) : r.inBits = true ↔ r.need = 0 ∨ r.b.length < r.need + 15 := by
  unfold Rd.inBits
  simp
theorem Link.right {r : Rd} {q : R3} (h : Link r q) (hc : ¬ r.inBits = true) : q.right = r.right := by
  have hi := fun x => hc ((inBits_iff r).2 x)
  have h0 : r.need ≠ 0 := fun e => hi (.inl e)
  have hl := h.len h0
  have hlen : r.b.length = r.need + 15 := by have : ¬ r.b.length < r.need + 15 := fun e => hi (.inr e); omega
  have hw := h.want
  rw [if_pos ⟨h0, by omega⟩] at hw
  have hb : r.inBits = false := by simpa using hc
  unfold R3.right Rd.right
  rw [hw, h.plain, hb, if_pos (by omega), if_pos (by rw [hlen]; omega), Int.toNat_natCast]
  have hs := crc_split (r.b.take r.need) (r.b.drop r.need) (by rw [List.length_drop]; omega)
  rw [List.take_append_drop] at hs
  rw [h.sum]
  by_cases hz : crcN r.b = 0
  · rw [hz, hs.1 hz]; simp
  · have : ¬ numN (r.b.drop r.need) = crcN (r.b.take r.need) := fun e => hz (hs.2 e)
    rw [beq_eq_false_iff_ne.2 this]
    simp [hz]
theorem unstuff_snoc {x : List Bool} {p : List Bool} {n : Nat} {b : Bool} (h : unstuffL 0 false 0 x = (p, n, b, none)) (c : Bool) :
    unstuffL 0 false 0 (x ++ [c]) = if n = 5 ∧ b = c then (p, n, b, some x.length) else (if n = 5 then p else p ++ [c], runK n b c, c, none) := by
  have ha := unstuff_append x [c] 0 false 0 (by rw [h])
  rw [ha, h]
  simp only [unstuffL]
  by_cases h5 : n = 5 ∧ b = c
  · rw [if_pos h5, if_pos h5]
    simp
  · rw [if_neg h5, if_neg h5]
    by_cases h6 : n = 5
    · simp [h6]
    · simp [h6]
theorem next_of {r : Rd} {q : R3} (h : Link r q) : nextL q.run = if r.rn = 5 then (if r.rb then 0 else 1) else -1 := by
  rw [next_val, h.un]
  simp
theorem link_tail {r : Rd} {q : R3} (h : Link r q) (c : Bool) (hc : ¬ (r.inBits = true ∨ r.rn = 5)) :
    ((r.push c).2 = 0 → Link (r.push c).1 (q.next c).1 ∧ (q.next c).2 = if (r.push c).1.en = 10 then 1 else 0) ∧ ((r.push c).2 ≠ 0 → (q.next c).2 = (r.push c).2) := by
  have ht := h.tail
  rw [if_neg hc] at ht
  have hr := h.right (fun x => hc (.inl x))
  have hp : r.push c = r.tail c := by
    unfold Rd.push
    rw [if_neg (fun x => x.elim (fun y => hc (.inl y)) (fun y => hc (.inr y.1)))]
  have hq : q.next c = R3.behind { q with S := q.S ++ [c] } c := by
    unfold R3.next
    rw [if_pos (by rw [ht]; omega)]
  have hR : R3.right { q with S := q.S ++ [c] } = r.right := hr
  have hl : Link (r.tail c).1 (R3.behind { q with S := q.S ++ [c] } c).1 := by
    refine ⟨h.un, h.plain, h.sum, ⟨h.inv.rn, h.inv.len, h.inv.none, h.inv.need, h.inv.sum⟩, h.need, h.len, fun x => absurd x hc, h.want, ?_, h.F⟩
    show q.tail + 1 = if r.inBits = true ∨ r.rn = 5 then -1 else ((r.en + 1 : Nat) : Int)
    rw [if_neg hc, ht]
    omega
  rw [hp, hq]
  have hv : (R3.behind { q with S := q.S ++ [c] } c).2 = if r.en + 1 = 2 then 0 else if c = false then 12 else if r.en + 1 = 3 ∧ r.right = false then 40 else if r.en + 1 = 10 then 1 else 0 := by
    unfold R3.behind
    rw [hR]
    simp only [ht]
    by_cases e2 : r.en + 1 = 2
    · rw [if_pos e2, if_neg (by omega), if_neg (by omega), if_neg (by omega)]
    · rw [if_neg e2]
      by_cases hcf : c = false
      · rw [if_pos ⟨by omega, hcf⟩, if_pos hcf]
      · rw [if_neg (fun x => hcf x.2), if_neg hcf]
        by_cases e3 : r.en + 1 = 3 ∧ r.right = false
        · rw [if_pos ⟨by omega, e3.2⟩, if_pos e3]
        · rw [if_neg (fun x => e3 ⟨by omega, x.2⟩), if_neg e3]
          by_cases e10 : r.en + 1 = 10
          · rw [if_pos (by omega), if_pos e10]
          · rw [if_neg (by omega), if_neg e10]
  have hw : (r.tail c).2 = if r.en + 1 = 2 then 0 else if c = false then 12 else if r.en + 1 = 3 ∧ r.right = false then 40 else 0 := rfl
  have hen : (r.tail c).1.en = r.en + 1 := rfl
  refine ⟨fun h0 => ⟨hl, ?_⟩, fun h0 => ?_⟩
  · rw [hv, hen]
    rw [hw] at h0
    by_cases e2 : r.en + 1 = 2
    · rw [if_pos e2, if_neg (by omega)]
    · rw [if_neg e2] at h0 ⊢
      by_cases hcf : c = false
      · rw [if_pos hcf] at h0; cases h0
      · rw [if_neg hcf] at h0 ⊢
        by_cases e3 : r.en + 1 = 3 ∧ r.right = false
        · rw [if_pos e3] at h0; cases h0
        · rw [if_neg e3]
  · rw [hv]
    rw [hw] at h0 ⊢
    by_cases e2 : r.en + 1 = 2
    · rw [if_pos e2] at h0; exact absurd rfl h0
    · rw [if_neg e2] at h0 ⊢
      rw [if_neg e2]
      by_cases hcf : c = false
      · rw [if_pos hcf, if_pos hcf]
      · rw [if_neg hcf] at h0 ⊢
        rw [if_neg hcf]
        by_cases e3 : r.en + 1 = 3 ∧ r.right = false
        · rw [if_pos e3, if_pos e3]
        · rw [if_neg e3] at h0; exact absurd rfl h0
/-- The last thing that the document's reader does with a bit within a frame. -/
theorem link_last {r : Rd} {q : R3} (hun : unstuffL 0 false 0 q.run = (r.b, r.rn, r.rb, none)) (hplain : q.plain = r.b) (hsum : r.sum = crcN r.b) (hinv : r.Inv) (hneed : r.need ≠ 0 → needL r.b = (r.need, 0))
    (hlen : r.need ≠ 0 → r.b.length ≤ r.need + 15) (hen : r.en = 0) (hop : r.inBits = true ∨ r.rn = 5 → r.laid = false)
    (hwant : q.want = if r.need ≠ 0 ∧ r.need ≤ r.b.length then (r.need : Int) else -1) (htail : q.tail = -1) (hF : 0 ≤ q.want → q.F = (parseL r.b).1) : Link r q.last := by
  have hnx : nextL q.run = if r.rn = 5 then (if r.rb then 0 else 1) else -1 := by rw [next_val, hun]; simp
  by_cases hc : r.inBits = true ∨ r.rn = 5
  · have hno : ¬ (0 ≤ q.want ∧ (q.plain.length : Int) = q.want + 15 ∧ nextL q.run < 0) := by
      rintro ⟨h1, h2, h3⟩
      rcases hc with hi | h5
      · rw [hwant] at h1 h2
        by_cases hw : r.need ≠ 0 ∧ r.need ≤ r.b.length
        · rw [if_pos hw, hplain] at h2
          rcases (inBits_iff r).1 hi with h | h
          · exact hw.1 h
          · omega
        · rw [if_neg hw] at h1; omega
      · rw [hnx, if_pos h5] at h3
        split at h3 <;> omega
    unfold R3.last
    rw [if_neg hno]
    exact ⟨hun, hplain, hsum, hinv, hneed, hlen, fun x => ⟨hen, hop x⟩, hwant, by rw [if_pos hc]; exact htail, hF⟩
  · have hi : ¬ (r.need = 0 ∨ r.b.length < r.need + 15) := fun x => hc (.inl ((inBits_iff r).2 x))
    have h0 : r.need ≠ 0 := fun x => hi (.inl x)
    have hl := hlen h0
    have hl2 : r.b.length = r.need + 15 := by have : ¬ r.b.length < r.need + 15 := fun x => hi (.inr x); omega
    have hw : q.want = (r.need : Int) := by rw [hwant, if_pos ⟨h0, by omega⟩]
    unfold R3.last
    rw [if_pos ⟨by rw [hw]; omega, by rw [hw, hplain, hl2]; omega, by rw [hnx, if_neg (fun x => hc (.inr x))]; omega⟩]
    exact ⟨hun, hplain, hsum, hinv, hneed, hlen, fun x => absurd x hc, hwant, by rw [if_neg hc, hen]; rfl, hF⟩
theorem parse_hit {l : List Bool} (h : (needL l).2 ≠ 0) : (parseL l).2.2 = 12 := by
  unfold parseL
  rw [if_pos h]
  exact (need_err l).resolve_left h
theorem parse_wait {l : List Bool} {n : Nat} (h : needL l = (n, 0)) (h1 : n = 0 ∨ l.length < n) : (parseL l).2.2 = 10 := by
  unfold parseL
  rw [h, if_neg (by simp), if_pos h1]
theorem link_laid {r : Rd} {q : R3} (h : Link r q) (c : Bool) (h5 : r.rn = 5) :
    ((r.push c).2 = 0 → Link (r.push c).1 (q.next c).1 ∧ (q.next c).2 = if (r.push c).1.en = 10 then 1 else 0) ∧ ((r.push c).2 ≠ 0 → (q.next c).2 = (r.push c).2) := by
  obtain ⟨he, hl⟩ := h.op (.inr h5)
  have ht := h.tail
  rw [if_pos (.inr h5)] at ht
  have hu := unstuff_snoc h.un c
  have hn := next_of h
  rw [if_pos h5] at hn
  have hp : r.push c = if c = r.rb then (r, 20) else ({ r with rn := 1, rb := c, laid := !r.inBits }, 0) := by
    unfold Rd.push
    rw [if_pos (.inr ⟨h5, hl, he⟩), if_pos h5]
  rw [hp]
  by_cases hcb : c = r.rb
  · rw [if_pos hcb]
    rw [if_pos ⟨h5, hcb.symm⟩] at hu
    refine ⟨fun x => absurd x (by simp), fun _ => ?_⟩
    unfold R3.next
    rw [if_neg (by rw [ht]; omega), hu]
    rfl
  · rw [if_neg hcb]
    rw [if_neg (fun x => hcb x.2.symm), if_pos h5, h5] at hu
    have e1 : runK 5 r.rb c = 1 := runK_other _ _ _ (fun x => hcb x.symm)
    rw [e1] at hu
    refine ⟨fun _ => ?_, fun x => absurd rfl x⟩
    have hq : q.next c = (R3.last { q with S := q.S ++ [c], run := q.run ++ [c] }, 0) := by
      unfold R3.next
      rw [if_neg (by rw [ht]; omega), hu, if_neg (by simp), if_pos (by rw [hn]; split <;> omega)]
    rw [hq]
    refine ⟨?_, by show 0 = if r.en = 10 then 1 else 0; rw [if_neg (by omega)]⟩
    refine link_last (r := { r with rn := 1, rb := c, laid := !r.inBits }) hu h.plain h.sum ⟨by show 1 ≤ 5; omega, h.inv.len, h.inv.none, h.inv.need, h.inv.sum⟩ h.need h.len he ?_ h.want ht h.F
    rintro (x | x)
    · have hi : r.inBits = true := x
      show (!r.inBits) = false
      rw [hi]; rfl
    · exact absurd (show (1 : Nat) = 5 from x) (by decide)
theorem link_plain {r : Rd} {q : R3} (h : Link r q) (c : Bool) (hi : r.inBits = true) (h5 : r.rn ≠ 5) :
    ((r.push c).2 = 0 → Link (r.push c).1 (q.next c).1 ∧ (q.next c).2 = if (r.push c).1.en = 10 then 1 else 0) ∧ ((r.push c).2 ≠ 0 → (q.next c).2 = (r.push c).2) := by
  obtain ⟨he, hl⟩ := h.op (.inl hi)
  have ht := h.tail
  rw [if_pos (.inl hi)] at ht
  have hu := unstuff_snoc h.un c
  rw [if_neg (fun x => h5 x.1), if_neg h5] at hu
  have hn := next_of h
  rw [if_neg h5] at hn
  have hinB := (inBits_iff r).1 hi
  have hq : q.next c = if (R3.parse { q with S := q.S ++ [c], run := q.run ++ [c], plain := q.plain ++ [c] }).2 = true then ((R3.parse { q with S := q.S ++ [c], run := q.run ++ [c], plain := q.plain ++ [c] }).1, 12)
      else (R3.last (R3.parse { q with S := q.S ++ [c], run := q.run ++ [c], plain := q.plain ++ [c] }).1, 0) := by
    unfold R3.next
    rw [if_neg (by rw [ht]; omega), hu, if_neg (by simp), if_neg (by rw [hn]; omega)]
  rcases push_body r c hi h5 with ⟨h0, r', hp⟩ | ⟨hp, h0⟩
  · rw [hp]
    refine ⟨fun x => absurd x (by simp), fun _ => ?_⟩
    have hbad : (needL (r.b ++ [c])).2 ≠ 0 := by
      intro hz
      have hp2 : r.push c = ({ r with rn := runK r.rn r.rb c, rb := c, b := r.b ++ [c], sum := addC r.sum c, need := (needL (r.b ++ [c])).1 }, 0) := by
        unfold Rd.push
        rw [if_pos (.inl hi), if_neg h5]
        unfold Rd.add
        rw [if_neg (by simp [h0]), if_neg (by simpa using hz)]
      rw [hp] at hp2
      cases (Prod.mk.inj hp2).2
    have hw : q.want = -1 := by rw [h.want, if_neg (fun x => x.1 h0)]
    have hpx : R3.parse { q with S := q.S ++ [c], run := q.run ++ [c], plain := q.plain ++ [c] } = ({ q with S := q.S ++ [c], run := q.run ++ [c], plain := q.plain ++ [c] }, true) := by
      unfold R3.parse
      simp only [hw, h.plain]
      rw [if_pos (show (-1 : Int) < 0 by omega), if_pos (parse_hit hbad)]
    rw [hq, hpx]
    rfl
  · rw [hp]
    refine ⟨fun _ => ?_, fun x => absurd rfl x⟩
    obtain ⟨N, hN⟩ : ∃ N, N = (if r.need ≠ 0 then r.need else (needL (r.b ++ [c])).1) := ⟨_, rfl⟩
    rw [← hN]
    have hneed : needL (r.b ++ [c]) = (N, 0) := by
      by_cases hz : r.need ≠ 0
      · rw [if_pos hz] at hN; rw [hN]; exact need_mono (h.need hz) hz [c]
      · rw [if_neg hz] at hN; exact Prod.ext hN.symm (h0 (Nat.eq_zero_of_not_pos (fun y => hz (by omega))))
    have hbl : N ≠ 0 → r.b.length < N + 15 ∧ (r.need = 0 → r.b.length < N) := by
      intro hN0
      by_cases hz : r.need ≠ 0
      · rw [if_pos hz] at hN
        refine ⟨by rcases hinB with x | x <;> omega, fun x => absurd x hz⟩
      · rw [if_neg hz] at hN
        have := need_step r.b c (h.inv.none (by omega)) (by omega)
        exact ⟨by omega, fun _ => by omega⟩
    have hblen : (r.b ++ [c]).length = r.b.length + 1 := by simp
    have hinv : Rd.Inv ⟨runK r.rn r.rb c, c, r.b ++ [c], N, addC r.sum c, r.en, r.laid⟩ := by
      have := Rd.Inv.push h.inv c (by rw [hp])
      rw [hp, ← hN] at this
      exact this.1
    -- the frame, as the document's reader finds it
    have key : ∃ q' : R3, (R3.parse { q with S := q.S ++ [c], run := q.run ++ [c], plain := q.plain ++ [c] }) = (q', false) ∧ q'.run = q.run ++ [c] ∧ q'.plain = r.b ++ [c] ∧ q'.tail = -1 ∧
        q'.want = (if N ≠ 0 ∧ N ≤ (r.b ++ [c]).length then (N : Int) else -1) ∧ (0 ≤ q'.want → q'.F = (parseL (r.b ++ [c])).1) := by
      by_cases hw : r.need ≠ 0 ∧ r.need ≤ r.b.length
      · have hqw : q.want = (r.need : Int) := by rw [h.want, if_pos hw]
        have hNr : N = r.need := by rw [hN, if_pos hw.1]
        refine ⟨{ q with S := q.S ++ [c], run := q.run ++ [c], plain := q.plain ++ [c] }, ?_, rfl, by rw [← h.plain], ht, ?_, fun _ => ?_⟩
        · unfold R3.parse
          simp only [hqw]
          rw [if_neg (by omega)]
        · show q.want = _
          rw [hqw, if_pos ⟨by rw [hNr]; exact hw.1, by rw [hNr, hblen]; omega⟩, hNr]
        · show q.F = _
          rw [parse_mono (h.need hw.1) hw.1 hw.2, h.F (by rw [hqw]; omega)]
      · have hqw : q.want = -1 := by rw [h.want, if_neg hw]
        by_cases hd : N ≠ 0 ∧ N ≤ (r.b ++ [c]).length
        · have hpv := parse_val hneed hd.1 hd.2
          refine ⟨{ q with S := q.S ++ [c], run := q.run ++ [c], plain := q.plain ++ [c], F := (parseL (r.b ++ [c])).1, want := ((parseL (r.b ++ [c])).2.1 : Int) }, ?_, rfl, by rw [← h.plain], ht, ?_, fun _ => rfl⟩
          · unfold R3.parse
            simp only [hqw, h.plain]
            rw [if_pos (by omega), if_neg (by rw [hpv]; simp), if_pos (by rw [hpv])]
          · show ((parseL (r.b ++ [c])).2.1 : Int) = _
            rw [if_pos hd, hpv]
        · have hpw := parse_wait hneed ((Nat.eq_zero_or_pos N).elim .inl (fun x => .inr (Nat.lt_of_not_le (fun y => hd ⟨by omega, y⟩))))
          refine ⟨{ q with S := q.S ++ [c], run := q.run ++ [c], plain := q.plain ++ [c] }, ?_, rfl, by rw [← h.plain], ht, ?_, fun x => ?_⟩
          · unfold R3.parse
            simp only [hqw, h.plain]
            rw [if_pos (by omega), if_neg (by rw [hpw]; decide), if_neg (by rw [hpw]; decide)]
          · show q.want = _
            rw [hqw, if_neg hd]
          · have : (0 : Int) ≤ q.want := x
            rw [hqw] at this; omega
    obtain ⟨q', k1, k2, k3, k4, k5, k6⟩ := key
    rw [hq, k1]
    simp only [Bool.false_eq_true, if_false]
    refine ⟨?_, by rw [if_neg (by omega)]⟩
    refine link_last (r := ⟨runK r.rn r.rb c, c, r.b ++ [c], N, addC r.sum c, r.en, r.laid⟩) ?_ k3 ?_ hinv (fun _ => hneed) ?_ he (fun _ => hl) k5 k4 k6
    · rw [k2]; exact hu
    · show addC r.sum c = crcN (r.b ++ [c])
      rw [crcN_snoc, h.sum]
    · intro hx
      have := (hbl hx).1
      show (r.b ++ [c]).length ≤ N + 15
      omega
theorem link_next {r : Rd} {q : R3} (h : Link r q) (c : Bool) :
    ((r.push c).2 = 0 → Link (r.push c).1 (q.next c).1 ∧ (q.next c).2 = if (r.push c).1.en = 10 then 1 else 0) ∧ ((r.push c).2 ≠ 0 → (q.next c).2 = (r.push c).2) := by
  by_cases h5 : r.rn = 5
  · exact link_laid h c h5
  · by_cases hi : r.inBits = true
    · exact link_plain h c hi h5
    · exact link_tail h c (fun x => x.elim hi h5)
/-- What the document's reader tells of a row. -/
def decode3 (q : R3) (i : Nat) : List Bool → (Bool × Nat × Bool × List UInt8) × Nat × Nat
  | [] => ((false, 0, false, []), i, 10)
  | c :: l => if (q.next c).2 = 1 then ((q.next c).1.F, i + 1, 0) else if (q.next c).2 ≠ 0 then ((false, 0, false, []), i, (q.next c).2) else decode3 (q.next c).1 (i + 1) l
theorem push_errs (r : Rd) (c : Bool) : (r.push c).2 = 0 ∨ (r.push c).2 = 12 ∨ (r.push c).2 = 20 ∨ (r.push c).2 = 40 := by
  unfold Rd.push
  by_cases hm : r.inBits = true ∨ (r.rn = 5 ∧ r.laid = false ∧ r.en = 0)
  · rw [if_pos hm]
    by_cases h5 : r.rn = 5
    · rw [if_pos h5]
      split
      · right; right; left; rfl
      · left; rfl
    · rw [if_neg h5]
      unfold Rd.add
      split
      · left; rfl
      · split
        · rename_i hx
          right; left
          exact (need_err _).resolve_left hx
        · left; rfl
  · rw [if_neg hm]
    unfold Rd.tail
    simp only
    split
    · left; rfl
    · split
      · right; left; rfl
      · split
        · right; right; right; rfl
        · left; rfl
theorem link_end {r : Rd} {q : R3} (h : Link r q) (he : r.en ≠ 0) : q.F = (parseL r.b).1 := by
  have hc : ¬ (r.inBits = true ∨ r.rn = 5) := fun x => he (h.op x).1
  have hi : ¬ (r.need = 0 ∨ r.b.length < r.need + 15) := fun x => hc (.inl ((inBits_iff r).2 x))
  have h0 : r.need ≠ 0 := fun x => hi (.inl x)
  refine h.F ?_
  rw [h.want, if_pos ⟨h0, by have : ¬ r.b.length < r.need + 15 := fun x => hi (.inr x); omega⟩]
  omega
theorem decode_same : ∀ (l : List Bool) (r : Rd) (q : R3) (i : Nat), Link r q → decode3 q i l = decodeL r i l
  | [], _, _, _, _ => rfl
  | c :: l, r, q, i, h => by
    obtain ⟨k1, k2⟩ := link_next h c
    have he := push_errs r c
    rw [decode3, decodeL]
    by_cases h0 : (r.push c).2 = 0
    · obtain ⟨g1, g2⟩ := k1 h0
      rw [if_neg (show ¬ (r.push c).2 ≠ 0 by simp [h0])]
      by_cases h10 : (r.push c).1.en = 10
      · rw [if_pos h10] at g2
        rw [if_pos g2, if_pos h10, link_end g1 (by omega)]
      · rw [if_neg h10] at g2
        rw [if_neg (by omega), if_neg (by simp [g2]), if_neg h10]
        exact decode_same l _ _ _ g1
    · have g2 := k2 h0
      rw [if_pos h0, g2, if_neg (by omega), if_pos h0]
end Go.Proofs.YtpkpnaedacefaaaGreat.Code
