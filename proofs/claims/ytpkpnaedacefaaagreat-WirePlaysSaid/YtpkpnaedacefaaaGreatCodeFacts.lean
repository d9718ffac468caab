/- A reader keeps its bounds. -/
import Derived.Test.YtpkpnaedacefaaaGreatCodeSpec
import Derived.Test.YtpkpnaedacefaaaGreatBitsB
namespace Go.Proofs.YtpkpnaedacefaaaGreat.Code
set_option linter.unusedVariables false
set_option linter.unusedSimpArgs false
open Go Go.Proofs.YtpkpnaedacefaaaGreat.Bits Go.Proofs.YtpkpnaedacefaaaGreat.BitsW Go.Proofs.YtpkpnaedacefaaaGreat.Frame

theorem need_zero {l : List Bool} (h : needL l = (0, 0)) : l.length ≤ 38 := by
  unfold needL at h
  split at h
  · simp at h
  · split at h
    · omega
    · split at h
      · split at h
        · split at h
          · omega
          · split at h <;> simp at h <;> omega
        · simp at h
      · split at h
        · omega
        · split at h <;> simp at h <;> omega
theorem need_max (l : List Bool) : (needL l).1 ≤ 103 := by
  unfold needL
  split
  · simp
  · split
    · simp
    · split
      · split
        · split
          · simp
          · split <;> simp <;> omega
        · simp
      · split
        · simp
        · split <;> simp <;> omega
/-- A reader within the bounds of its frame. -/
structure Rd.Inv (r : Rd) : Prop where
  rn : r.rn ≤ 5
  len : r.b.length ≤ 118
  none : r.need = 0 → needL r.b = (0, 0)
  need : r.need ≤ 103
  sum : r.sum < 65536
theorem Rd.zero_inv : Rd.zero.Inv := ⟨by decide, by decide, fun _ => rfl, by decide, by decide⟩
theorem Rd.Inv.free {r : Rd} (h : r.Inv) (hi : r.inBits = true) : r.b.length ≤ 117 := by
  unfold Rd.inBits at hi
  simp at hi
  rcases hi with h0 | h1
  · have := need_zero (h.none h0); omega
  · have := h.need; omega
theorem Rd.Inv.add {r : Rd} (c : Bool) (hr : r.rn ≤ 5) (hl : r.b.length ≤ 117) (hn : r.need ≤ 103) (he : (r.add c).2 = 0) : (r.add c).1.Inv ∧ (r.add c).1.en = r.en := by
  have hs := addC_lt r.sum c
  have hl2 : (r.b ++ [c]).length ≤ 118 := by simp; omega
  unfold Rd.add at he ⊢
  by_cases h0 : r.need ≠ 0
  · rw [if_pos h0]
    exact ⟨⟨hr, hl2, fun h => absurd h h0, hn, by show addC r.sum c < 65536; omega⟩, rfl⟩
  · rw [if_neg h0] at he ⊢
    by_cases h1 : (needL (r.b ++ [c])).2 ≠ 0
    · rw [if_pos h1] at he; exact absurd he h1
    · rw [if_neg h1]
      exact ⟨⟨hr, hl2, fun h => Prod.ext h (by simpa using h1), need_max _, by show addC r.sum c < 65536; omega⟩, rfl⟩
theorem Rd.Inv.push {r : Rd} (h : r.Inv) (c : Bool) (he : (r.push c).2 = 0) : (r.push c).1.Inv ∧ (r.push c).1.en ≤ r.en + 1 := by
  unfold Rd.push at he ⊢
  by_cases hin : r.inBits = true ∨ (r.rn = 5 ∧ r.laid = false ∧ r.en = 0)
  · rw [if_pos hin] at he ⊢
    by_cases h5 : r.rn = 5
    · rw [if_pos h5] at he ⊢
      by_cases hc : c = r.rb
      · rw [if_pos hc] at he; simp at he
      · rw [if_neg hc]
        exact ⟨⟨by show 1 ≤ 5; omega, h.len, h.none, h.need, h.sum⟩, Nat.le_succ _⟩
    · rw [if_neg h5] at he ⊢
      have hI : r.inBits = true := hin.elim id (fun q => absurd q.1 h5)
      have hk : runK r.rn r.rb c ≤ 5 := by unfold runK; have := h.rn; split <;> omega
      obtain ⟨i1, i2⟩ := Rd.Inv.add (r := { r with rn := runK r.rn r.rb c, rb := c }) c hk (h.free hI) h.need he
      exact ⟨i1, by rw [i2]; exact Nat.le_succ _⟩
  · rw [if_neg hin] at he ⊢
    exact ⟨⟨h.rn, h.len, h.none, h.need, h.sum⟩, Nat.le_refl _⟩
end Go.Proofs.YtpkpnaedacefaaaGreat.Code

/- The document's reader, in plain Lean. -/
namespace Go.Proofs.YtpkpnaedacefaaaGreat.Code
set_option linter.unusedVariables false
set_option linter.unusedSimpArgs false
open Go Go.Proofs.YtpkpnaedacefaaaGreat.Bits Go.Proofs.YtpkpnaedacefaaaGreat.BitsW Go.Proofs.YtpkpnaedacefaaaGreat.Frame
/-- The document's reader: all bits, those without the laid ones, those up to the sum's end; how many there are ahead of the sum (-1: not told), behind it (-1: not there); the frame. -/
structure R3 where
  S : List Bool
  plain : List Bool
  run : List Bool
  want : Int
  tail : Int
  F : Bool × Nat × Bool × List UInt8
def R3.right (r : R3) : Bool := if 0 ≤ r.want then (if (r.plain.length : Int) = r.want + 15 then numN (r.plain.drop r.want.toNat) == crcN (r.plain.take r.want.toNat) else false) else false
def R3.behind (r : R3) (c : Bool) : R3 × Nat :=
  ({ r with tail := r.tail + 1 }, if r.tail + 1 ≠ 2 ∧ c = false then 12 else if r.tail + 1 = 3 ∧ r.right = false then 40 else if r.tail + 1 = 10 then 1 else 0)
/-- The frame that the bits begin with, if it is whole now; whether there is none. -/
def R3.parse (r : R3) : R3 × Bool :=
  if r.want < 0 then (if (parseL r.plain).2.2 = 12 then (r, true) else if (parseL r.plain).2.2 = 0 then ({ r with F := (parseL r.plain).1, want := ((parseL r.plain).2.1 : Int) }, false) else (r, false)) else (r, false)
def R3.last (r : R3) : R3 := if 0 ≤ r.want ∧ (r.plain.length : Int) = r.want + 15 ∧ nextL r.run < 0 then { r with tail := 0 } else r
def R3.next (r : R3) (c : Bool) : R3 × Nat :=
  if 0 ≤ r.tail then R3.behind { r with S := r.S ++ [c] } c
  else if (unstuffL 0 false 0 (r.run ++ [c])).2.2.2.isSome then ({ r with S := r.S ++ [c], run := r.run ++ [c] }, 20)
  else if 0 ≤ nextL r.run then (R3.last { r with S := r.S ++ [c], run := r.run ++ [c] }, 0)
  else if (R3.parse { r with S := r.S ++ [c], run := r.run ++ [c], plain := r.plain ++ [c] }).2 = true then ((R3.parse { r with S := r.S ++ [c], run := r.run ++ [c], plain := r.plain ++ [c] }).1, 12)
  else (R3.last (R3.parse { r with S := r.S ++ [c], run := r.run ++ [c], plain := r.plain ++ [c] }).1, 0)
def R3.new : R3 := ⟨[], [], [], -1, -1, (false, 0, false, [])⟩
end Go.Proofs.YtpkpnaedacefaaaGreat.Code

/- The reader and the document's one go together. -/
namespace Go.Proofs.YtpkpnaedacefaaaGreat.Code
set_option linter.unusedVariables false
set_option linter.unusedSimpArgs false
open Go Go.Proofs.YtpkpnaedacefaaaGreat.Bits Go.Proofs.YtpkpnaedacefaaaGreat.BitsW Go.Proofs.YtpkpnaedacefaaaGreat.Frame
theorem getD_app (l x : List Bool) (i : Nat) (h : i < l.length) : (l ++ x).getD i false = l.getD i false := by
  rw [List.getD_eq_getElem?_getD, List.getD_eq_getElem?_getD, List.getElem?_append_left h]
theorem part_app (l x : List Bool) (i k : Nat) (h : i + k ≤ l.length) : ((l ++ x).drop i).take k = (l.drop i).take k := by
  rw [List.drop_append_of_le_length (by omega), List.take_append_of_le_length (by rw [List.length_drop]; omega)]
/-- The head of a frame that is long enough. -/
theorem need_cases {l : List Bool} {n : Nat} (h : needL l = (n, 0)) (h1 : n ≠ 0) : l.getD 0 false = false ∧ 13 < l.length ∧
    ((l.getD 13 false = true ∧ l.getD 12 false = true ∧ 39 ≤ l.length ∧ n = if l.getD 32 false = true then 39 else 39 + 8 * min (numN ((l.drop 35).take 4)) 8) ∨
     (l.getD 13 false = false ∧ 19 ≤ l.length ∧ n = if l.getD 12 false = true then 19 else 19 + 8 * min (numN ((l.drop 15).take 4)) 8)) := by
  unfold needL at h
  by_cases c0 : 0 < l.length ∧ l.getD 0 false = true
  · rw [if_pos c0] at h; simp at h
  · rw [if_neg c0] at h
    by_cases c1 : l.length ≤ 13
    · rw [if_pos c1] at h; simp at h; omega
    · rw [if_neg c1] at h
      have g0 : l.getD 0 false = false := by
        cases hx : l.getD 0 false
        · rfl
        · exact absurd ⟨by omega, hx⟩ c0
      refine ⟨g0, by omega, ?_⟩
      by_cases c2 : l.getD 13 false = true
      · rw [if_pos c2] at h
        left
        by_cases c3 : l.getD 12 false = true
        · rw [if_pos c3] at h
          by_cases c4 : l.length < 39
          · rw [if_pos c4] at h; simp at h; omega
          · rw [if_neg c4] at h
            refine ⟨c2, c3, by omega, ?_⟩
            split at h
            · rename_i c5; rw [if_pos c5]; exact (Prod.mk.inj h).1.symm
            · rename_i c5; rw [if_neg c5]; exact (Prod.mk.inj h).1.symm
        · rw [if_neg c3] at h; simp at h
      · rw [if_neg c2] at h
        right
        by_cases c4 : l.length < 19
        · rw [if_pos c4] at h; simp at h; omega
        · rw [if_neg c4] at h
          refine ⟨by simpa using c2, by omega, ?_⟩
          split at h
          · rename_i c5; rw [if_pos c5]; exact (Prod.mk.inj h).1.symm
          · rename_i c5; rw [if_neg c5]; exact (Prod.mk.inj h).1.symm
theorem need_mono {l : List Bool} {n : Nat} (h : needL l = (n, 0)) (h1 : n ≠ 0) (x : List Bool) : needL (l ++ x) = (n, 0) := by
  obtain ⟨g0, g1, g⟩ := need_cases h h1
  have hl : (l ++ x).length = l.length + x.length := List.length_append
  unfold needL
  rw [if_neg (by rw [getD_app _ _ _ (by omega), g0]; simp), if_neg (by omega)]
  rcases g with ⟨a1, a2, a3, a4⟩ | ⟨a1, a3, a4⟩
  · rw [if_pos (by rw [getD_app _ _ _ (by omega)]; exact a1), if_pos (by rw [getD_app _ _ _ (by omega)]; exact a2), if_neg (by omega), getD_app _ _ 32 (by omega), part_app _ _ _ _ (by omega), a4]
    split <;> rfl
  · rw [if_neg (by rw [getD_app _ _ _ (by omega), a1]; simp), if_neg (by omega), getD_app _ _ 12 (by omega), part_app _ _ _ _ (by omega), a4]
    split <;> rfl
theorem parse_val {l : List Bool} {n : Nat} (h : needL l = (n, 0)) (h1 : n ≠ 0) (h2 : n ≤ l.length) : (parseL l).2 = (n, 0) := by
  unfold parseL
  rw [h, if_neg (by simp), if_neg (by simp; omega)]
  split <;> rfl
theorem parse_mono {l : List Bool} {n : Nat} (h : needL l = (n, 0)) (h1 : n ≠ 0) (h2 : n ≤ l.length) (x : List Bool) : parseL (l ++ x) = parseL l := by
  obtain ⟨g0, g1, g⟩ := need_cases h h1
  have hm := need_mono h h1 x
  have hl : (l ++ x).length = l.length + x.length := List.length_append
  have n19 : 19 ≤ n := by rcases g with ⟨a1, a2, a3, a4⟩ | ⟨a1, a3, a4⟩ <;> (rw [a4]; split <;> omega)
  rcases g with ⟨a1, a2, a3, a4⟩ | ⟨a1, a3, a4⟩
  · have n39 : 39 ≤ n := by rw [a4]; split <;> omega
    have e1 : parseL l = ((true, numN ((l.drop 1).take 11) * 262144 + numN ((l.drop 14).take 18), l.getD 32 false, toB ((l.drop 39).take (n - 39))), n, 0) := by
      unfold parseL; rw [h, if_neg (by simp), if_neg (by simp only; omega), if_pos a1]
    have e2 : parseL (l ++ x) = ((true, numN (((l ++ x).drop 1).take 11) * 262144 + numN (((l ++ x).drop 14).take 18), (l ++ x).getD 32 false, toB (((l ++ x).drop 39).take (n - 39))), n, 0) := by
      unfold parseL; rw [hm, if_neg (by simp), if_neg (by simp only; omega), if_pos (by rw [getD_app _ _ _ (by omega)]; exact a1)]
    rw [e1, e2, part_app _ _ 1 _ (by omega), part_app _ _ 14 _ (by omega), getD_app _ _ 32 (by omega), part_app _ _ 39 _ (by omega)]
  · have e1 : parseL l = ((false, numN ((l.drop 1).take 11), l.getD 12 false, toB ((l.drop 19).take (n - 19))), n, 0) := by
      unfold parseL; rw [h, if_neg (by simp), if_neg (by simp only; omega), if_neg (by rw [a1]; simp)]
    have e2 : parseL (l ++ x) = ((false, numN (((l ++ x).drop 1).take 11), (l ++ x).getD 12 false, toB (((l ++ x).drop 19).take (n - 19))), n, 0) := by
      unfold parseL; rw [hm, if_neg (by simp), if_neg (by simp only; omega), if_neg (by rw [getD_app _ _ _ (by omega), a1]; simp)]
    rw [e1, e2, part_app _ _ 1 _ (by omega), getD_app _ _ 12 (by omega), part_app _ _ 19 _ (by omega)]
theorem xor_none {a b : Nat} (h : a ^^^ b = 0) : a = b := by
  have := xor_cancel a b
  rw [h, Nat.xor_zero] at this
  exact this
theorem addC_none {c : Nat} (h : c < 32768) (h2 : addC c false = 0) : c = 0 := by
  unfold addC at h2
  by_cases ht : c.testBit 14 = true
  · rw [ht] at h2
    simp only [Bool.true_bne, Bool.not_false, if_true] at h2
    have h3 := xor_none h2
    omega
  · have ht2 : c.testBit 14 = false := by simpa using ht
    rw [ht2] at h2
    simp only [bne_self_eq_false, Bool.false_eq_true, if_false, Nat.xor_zero] at h2
    rw [Nat.testBit_eq_decide_div_mod_eq, decide_eq_false_iff_not, show (2 : Nat) ^ 14 = 16384 from rfl] at ht2
    omega
theorem noughts_none : ∀ (k : Nat) {c : Nat}, c < 32768 → (List.replicate k false).foldl addC c = 0 → c = 0
  | 0, c, _, h => h
  | k + 1, c, h, h2 => addC_none h (noughts_none k (addC_lt c false) h2)
theorem zip_noughts : ∀ z : List Bool, List.zipWith (· ^^ ·) z (List.replicate z.length false) = z
  | [] => rfl
  | a :: z => by
    rw [List.length_cons, List.replicate_succ, List.zipWith_cons_cons, zip_noughts z, Bool.xor_false]
/-- A sum is nought where what is behind is the sum of what is ahead. -/
theorem crc_split (x z : List Bool) (hz : z.length = 15) : crcN (x ++ z) = 0 ↔ numN z = crcN x := by
  have hm := numN_lt z
  rw [hz] at hm
  have hx := crcN_lt x
  have ez : ofN (numN z) 15 = z := by rw [← hz]; exact ofN_numN z
  have h0 := crc_own (numN z) 15 (by omega)
  rw [ez, Nat.sub_self, Nat.pow_zero, Nat.mul_one, Nat.mod_eq_of_lt hm] at h0
  have hzip : List.zipWith (· ^^ ·) z (List.replicate 15 false) = z := by rw [← hz]; exact zip_noughts z
  have hfold := crcFold_xor z (List.replicate 15 false) (numN z) (numN z ^^^ crcN x) (by rw [hz]; simp)
  rw [hzip, h0, xor_cancel, Nat.zero_xor] at hfold
  rw [crcN_append, hfold]
  have hlt : numN z ^^^ crcN x < 32768 := Nat.xor_lt_two_pow (n := 15) hm hx
  constructor
  · intro h
    have := noughts_none 15 hlt h
    exact xor_none this
  · intro h
    rw [h, Nat.xor_self, crc_zeros]
end Go.Proofs.YtpkpnaedacefaaaGreat.Code
