/- Bits laid between, as lists of Bools: what the document's layer 2 says, in plain Lean. -/
import Derived.Test.YtkdnldoebghclaaBitsB
import Derived.Test.YtkdnldoebghclaaQRef1x
namespace Go.Proofs.Ytkdnldoebghclaa.Bits
set_option linter.unusedVariables false
set_option linter.unusedSimpArgs false
open Go Go.RowKit

/-- How many alike a row ends with, when one more comes. -/
def runK (n : Nat) (b c : Bool) : Nat := if n > 0 ∧ b = c then n + 1 else 1
/-- Bits laid between, behind a row that ends with n bits b. -/
def stuffL : Nat → Bool → List Bool → List Bool
  | _, _, [] => []
  | n, b, c :: l => if runK n b c = 5 then c :: (!c) :: stuffL 1 (!c) l else c :: stuffL (runK n b c) c l
/-- Taken away again: what is left, the last bits alike, where a sixth alike is. -/
def unstuffL : Nat → Bool → Nat → List Bool → List Bool × Nat × Bool × Option Nat
  | n, b, _, [] => ([], n, b, none)
  | n, b, i, c :: l => if n = 5 ∧ b = c then ([], n, b, some i) else
      ((if n = 5 then (unstuffL (runK n b c) c (i + 1) l).1 else c :: (unstuffL (runK n b c) c (i + 1) l).1), (unstuffL (runK n b c) c (i + 1) l).2)
/-- The last bits alike of a row. -/
def runL : Nat → Bool → List Bool → Nat × Bool
  | n, b, [] => (n, b)
  | n, b, c :: l => runL (runK n b c) c l
theorem runK_le (n : Nat) (b c : Bool) (h : n ≤ 5) (h2 : ¬ (n = 5 ∧ b = c)) : 1 ≤ runK n b c ∧ runK n b c ≤ 5 := by
  unfold runK
  split
  · rename_i h3
    refine ⟨by omega, ?_⟩
    have : n ≠ 5 := fun e => h2 ⟨e, h3.2⟩
    omega
  · omega
/-- Stuff. -/
def stuff (l : List Bool) : List Bool := stuffL 0 false l
/-- Which bit must come next. -/
def nextL (l : List Bool) : Int := match unstuffL 0 false 0 l with
  | (_, n, b, at_) => if at_.isSome then -2 else if n = 5 then (if b then 0 else 1) else -1
/-- How many bits there are at most. -/
def mostI (n : Int) : Int := if (min (max n 0) 10000) < 5 then min (max n 0) 10000 else min (max n 0) 10000 + 1 + (min (max n 0) 10000 - 5) / 4
theorem unstuff_run : ∀ (l : List Bool) (n : Nat) (b : Bool) (i : Nat), (unstuffL n b i l).2.2.2 = none → ((unstuffL n b i l).2.1, (unstuffL n b i l).2.2.1) = runL n b l
  | [], _, _, _, _ => rfl
  | c :: l, n, b, i, h => by
    unfold unstuffL at h ⊢
    by_cases h5 : n = 5 ∧ b = c
    · rw [if_pos h5] at h; cases h
    · rw [if_neg h5] at h ⊢
      simp only at h ⊢
      exact unstuff_run l _ _ _ h
theorem stuffL_length : ∀ (l : List Bool) (n : Nat) (b : Bool), l.length ≤ (stuffL n b l).length ∧ (stuffL n b l).length ≤ 2 * l.length
  | [], _, _ => by simp [stuffL]
  | c :: l, n, b => by
    unfold stuffL
    split
    · have := stuffL_length l 1 (!c); simp; omega
    · have := stuffL_length l (runK n b c) c; simp; omega
end Go.Proofs.Ytkdnldoebghclaa.Bits

/- The document's layers 1 and 2 (package ostinatoref1): what its printed functions answer, as lists of Bools. -/
namespace Go.Proofs.Ytkdnldoebghclaa.Ref1
set_option linter.unusedVariables false
set_option linter.unusedSimpArgs false
open Go.RowKit Go.Proofs.Ytkdnldoebghclaa.QRef1 Go.Proofs.YtkdnldoebghclaaW.PrintWords Go.Proofs.YtkdnldoebghclaaW.PrintLast Go.Proofs.YtkdnldoebghclaaW.PrintMore
open Go.Proofs.Ytkdnldoebghclaa.Facts Go.Proofs.Ytkdnldoebghclaa.Bits Go.Proofs.Ytkdnldoebghclaa.BitsW Go.Proofs.Ytkdnldoebghclaa.Plug

theorem step64 (i n : Nat) (h : i < n) (hn : n ≤ 140737488355328) : wrap64 ((i : Int) + 1) = ((i + 1 : Nat) : Int) := by unfold wrap64; omega
theorem bt_nat (s : ByteArray) (i : Nat) (h : i < s.data.toList.length) : bt s (i : Int) = ((s.data.toList[i]).toNat : Int) := by
  have h2 : i < s.size := by rw [← size_list]; exact h
  unfold bt
  rw [dif_pos (by simpa using h2), Array.getElem_toList]
  rfl
theorem byte_is (c d : UInt8) (n : Int) (h : (d.toNat : Int) = n) : ((c.toNat : Int) = n) ↔ c = d := by
  subst h
  constructor
  · intro h; exact UInt8.toNat_inj.1 (by omega)
  · intro h; rw [h]
theorem bt_bit (s : ByteArray) (i : Nat) (h : i < (bitsOf s).length) : (bt s (i : Int) == 49) = (bitsOf s)[i] := by
  have h2 : i < s.data.toList.length := by simpa [bitsOf] using h
  rw [bt_nat s i h2, Bool.eq_iff_iff, beq_iff_eq, byte_is _ 49 49 rfl]
  simp [bitsOf]
theorem drop_at {α : Type} (l : List α) (i : Nat) (h : i < l.length) : l.drop i = l[i] :: l.drop (i + 1) := List.drop_eq_getElem_cons h
theorem more_rounds {k d : Nat} (h : d < k) : ∃ m, k = m + 1 ∧ d ≤ m := ⟨k - 1, by omega, by omega⟩

theorem bit_eq (b : Bool) : ostinatoref1_Bit.f b = some (B [b]) := by cases b <;> rfl

theorem of_from (n : Nat) (hn : n < 18446744073709551616) (W : Nat) : ∀ (k : Nat) (acc : List Bool), W ≤ 64 → acc.length + W ≤ 4096 → W < k → ostinatoref1_Of.l0 k (n : Int) (B acc) ((W : Int) - 1) = some (B (acc ++ ofN n W)) := by
  induction W with
  | zero =>
    intro k acc _ _ hk
    obtain ⟨k, rfl, _⟩ := more_rounds hk
    rw [ostinatoref1_Of.l0, if_neg (by omega)]
    simp [ofN]
  | succ W ih =>
    intro k acc hW hl hk
    obtain ⟨k, rfl, _⟩ := more_rounds hk
    have e : ((W + 1 : Nat) : Int) - 1 = (W : Int) := by omega
    have hw : IntKind.u64.wrap (W : Int) = (W : Int) := wrap_u64 W (by omega)
    have hsh : shr .u64 (n : Int) (W : Int) = (n : Int) / 2 ^ W := by
      unfold shr
      have h1 : min ((W : Int)).toNat IntKind.u64.bits = W := by simp [IntKind.bits]; omega
      rw [h1]
    have hst : wrap64 ((W : Int) - 1) = (W : Int) - 1 := by unfold wrap64; omega
    rw [e, ostinatoref1_Of.l0, if_pos (by omega), hw, if_pos (by omega), hsh, BitsW.and_one n W hn, bit_eq, Option.bind_some, B_size, B_size, if_pos (by simp; omega), B_append, hst]
    rw [ih k (acc ++ [n.testBit W]) (by omega) (by simp; omega) (by omega)]
    simp [ofN]
theorem of_eq (n : Nat) (hn : n < 18446744073709551616) (w : Int) (k : Nat) (hk : 64 < k) : ostinatoref1_Of.f k (n : Int) w = some (B (ofN n (wid w))) := by
  have hw : mx 0 (mn w 64) - 1 = (wid w : Int) - 1 := by unfold mx mn wid; split <;> split <;> omega
  have h64 : wid w ≤ 64 := by unfold wid; omega
  unfold ostinatoref1_Of.f
  rw [hw]
  have := of_from n hn (wid w) k [] h64 (by simp; omega) (by omega)
  simpa [B] using this

theorem num_from (s : ByteArray) (hs : s.size ≤ 140737488351232) (d : Nat) : ∀ (k i m : Nat), i ≤ s.size → s.size - i = d → d < k →
    ostinatoref1_Num.l0 k s (m : Int) (i : Int) = some (((bitsOf s).drop i).foldl (fun a b => (2 * a + b.toNat) % 18446744073709551616) m : Nat) := by
  induction d with
  | zero =>
    intro k i m hi hd hk
    obtain ⟨k, rfl, _⟩ := more_rounds hk
    rw [ostinatoref1_Num.l0, if_neg (by omega), List.drop_of_length_le (by rw [bitsOf_length]; omega)]
    rfl
  | succ d ih =>
    intro k i m hi hd hk
    obtain ⟨k, rfl, _⟩ := more_rounds hk
    have hl : i < (bitsOf s).length := by rw [bitsOf_length]; omega
    have hb := bt_bit s i hl
    rw [ostinatoref1_Num.l0, if_pos (by omega), if_pos (by omega), step64 i s.size (by omega) (by omega), shl_one m, or_one m, drop_at _ i hl, List.foldl_cons]
    by_cases h1 : bt s (i : Int) = 49
    · rw [if_pos h1, ih k (i + 1) _ (by omega) (by omega) (by omega)]
      have : (bitsOf s)[i] = true := by rw [← hb]; exact beq_iff_eq.2 h1
      rw [this]
      rfl
    · rw [if_neg h1, ih k (i + 1) _ (by omega) (by omega) (by omega)]
      have : (bitsOf s)[i] = false := by rw [← hb]; exact beq_eq_false_iff_ne.2 h1
      rw [this]
      rfl
theorem num_eq (s : ByteArray) (hs : s.size ≤ 140737488351232) (k : Nat) (hk : s.size < k) : ostinatoref1_Num.f k s = some (num64 (bitsOf s) : Int) := by
  have := num_from s hs s.size k 0 0 (by omega) (by omega) hk
  simpa [ostinatoref1_Num.f, num64] using this

/-- Turn, from place i on. -/
def turnFrom (l : List Bool) (i : Nat) (at_ : Int) : List Bool := l.mapIdx (fun j b => b != (((i + j : Nat) : Int) == at_))
theorem turnFrom_zero (l : List Bool) (at_ : Int) : turnFrom l 0 at_ = turnI l at_ := by
  apply List.ext_getElem?
  intro j
  unfold turnFrom turnI
  rw [List.getElem?_mapIdx]
  by_cases h : 0 ≤ at_ ∧ at_ < l.length
  · rw [if_pos h]
    unfold turn
    rw [List.getElem?_modify]
    by_cases e : at_.toNat = j
    · have : ((0 + j : Nat) : Int) = at_ := by omega
      rw [this]
      cases l[j]? <;> simp [e]
    · have : ¬ (j : Int) = at_ := by omega
      cases l[j]? <;> simp [e, show ((j : Int) == at_) = false from beq_eq_false_iff_ne.2 this]
  · rw [if_neg h]
    by_cases hj : j < l.length
    · have : ¬ (j : Int) = at_ := by omega
      rw [List.getElem?_eq_getElem hj]
      simp [show ((j : Int) == at_) = false from beq_eq_false_iff_ne.2 this]
    · rw [List.getElem?_eq_none (by omega)]
      rfl
theorem turnFrom_cons (b : Bool) (l : List Bool) (i : Nat) (at_ : Int) : turnFrom (b :: l) i at_ = (b != ((i : Int) == at_)) :: turnFrom l (i + 1) at_ := by
  unfold turnFrom
  rw [List.mapIdx_cons]
  congr 1
  apply List.ext_getElem?
  intro j
  rw [List.getElem?_mapIdx, List.getElem?_mapIdx]
  have : i + (j + 1) = i + 1 + j := by omega
  rw [this]
theorem turn_from (s : ByteArray) (at_ : Int) (hs : s.size ≤ 140737488351232) (d : Nat) : ∀ (k i : Nat) (acc : List Bool), i ≤ s.size → s.size - i = d → acc.length = i → d < k →
    ostinatoref1_Turn.l0 k s at_ (B acc) (i : Int) = some (B (acc ++ turnFrom ((bitsOf s).drop i) i at_)) := by
  induction d with
  | zero =>
    intro k i acc hi hd hac hk
    obtain ⟨k, rfl, _⟩ := more_rounds hk
    rw [ostinatoref1_Turn.l0, if_neg (by omega), List.drop_of_length_le (by rw [bitsOf_length]; omega)]
    simp [turnFrom]
  | succ d ih =>
    intro k i acc hi hd hac hk
    obtain ⟨k, rfl, _⟩ := more_rounds hk
    have hl : i < (bitsOf s).length := by rw [bitsOf_length]; omega
    rw [ostinatoref1_Turn.l0, if_pos (by omega), if_pos (by omega), bt_bit s i hl, bit_eq, Option.bind_some, step64 i s.size (by omega) (by omega), B_size, B_size, if_pos (by simp; omega), B_append]
    rw [ih k (i + 1) _ (by omega) (by omega) (by simp; omega) (by omega), drop_at _ i hl, turnFrom_cons]
    simp
theorem turn_eq (s : ByteArray) (at_ : Int) (hs : s.size ≤ 140737488351232) (k : Nat) (hk : s.size < k) : ostinatoref1_Turn.f k s at_ = some (B (turnI (bitsOf s) at_)) := by
  have := turn_from s at_ hs s.size k 0 [] (by omega) (by omega) rfl hk
  rw [List.drop_zero, turnFrom_zero] at this
  simpa [ostinatoref1_Turn.f, B] using this

theorem from_from (s : ByteArray) (hs : s.size ≤ 1099511627776) (d : Nat) : ∀ (k i : Nat) (acc : List Bool), i ≤ s.size → s.size - i = d → acc.length = 8 * i → d + 64 < k →
    ostinatoref1_FromBytes.l0 k s (B acc) (i : Int) = some (B (acc ++ fromB (s.data.toList.drop i))) := by
  induction d with
  | zero =>
    intro k i acc hi hd hac hk
    obtain ⟨k, rfl, _⟩ := more_rounds hk
    rw [ostinatoref1_FromBytes.l0, if_neg (by omega), List.drop_of_length_le (by rw [size_list]; omega)]
    simp [fromB]
  | succ d ih =>
    intro k i acc hi hd hac hk
    obtain ⟨k, rfl, _⟩ := more_rounds hk
    have hl : i < s.data.toList.length := by rw [size_list]; omega
    have hb : (s.data.toList[i]).toNat < 256 := (s.data.toList[i]).toNat_lt
    rw [ostinatoref1_FromBytes.l0, if_pos (by omega), if_pos (by omega), bt_nat s i hl, wrap_u64 _ (by omega), of_eq _ (by omega) 8 k (by omega), wid8, Option.bind_some, step64 i s.size (by omega) (by omega), B_size, B_size, if_pos (by rw [ofN_length]; omega), B_append]
    rw [ih k (i + 1) _ (by omega) (by omega) (by rw [List.length_append, ofN_length]; omega) (by omega), drop_at _ i hl]
    simp [fromB]
theorem from_eq (s : ByteArray) (hs : s.size ≤ 1099511627776) (k : Nat) (hk : s.size + 64 < k) : ostinatoref1_FromBytes.f k s = some (B (fromB s.data.toList)) := by
  have := from_from s hs s.size k 0 [] (by omega) (by omega) rfl hk
  simpa [ostinatoref1_FromBytes.f, B] using this

theorem crc_from (s : ByteArray) (hs : s.size ≤ 140737488351232) (d : Nat) : ∀ (k i c : Nat), i ≤ s.size → s.size - i = d → c < 32768 → d < k →
    ostinatoref1_CRC.l0 k s (c : Int) (i : Int) = some (((bitsOf s).drop i).foldl addC c : Nat) := by
  induction d with
  | zero =>
    intro k i c hi hd hc hk
    obtain ⟨k, rfl, _⟩ := more_rounds hk
    rw [ostinatoref1_CRC.l0, if_neg (by omega), List.drop_of_length_le (by rw [bitsOf_length]; omega)]
    rfl
  | succ d ih =>
    intro k i c hi hd hc hk
    obtain ⟨k, rfl, _⟩ := more_rounds hk
    have hl : i < (bitsOf s).length := by rw [bitsOf_length]; omega
    have hlt := addC_lt c (bitsOf s)[i]
    rw [ostinatoref1_CRC.l0, if_pos (by omega), if_pos (by omega), bt_bit s i hl, step64 i s.size (by omega) (by omega), add_top c (by omega), add_low c, add_xor _ (by omega), drop_at _ i hl, List.foldl_cons]
    have ea : addC c (bitsOf s)[i] = ((c * 2) % 32768) ^^^ (if c.testBit 14 != (bitsOf s)[i] then 17817 else 0) := rfl
    by_cases h : (c.testBit 14 != (bitsOf s)[i]) = true
    · rw [if_pos h]
      rw [if_pos h] at ea
      rw [← ea]
      exact ih k (i + 1) _ (by omega) (by omega) hlt (by omega)
    · rw [if_neg h]
      rw [if_neg h, Nat.xor_zero] at ea
      rw [← ea]
      exact ih k (i + 1) _ (by omega) (by omega) hlt (by omega)
theorem crc_eq (s : ByteArray) (hs : s.size ≤ 140737488351232) (k : Nat) (hk : s.size < k) : ostinatoref1_CRC.f k s = some (crcN (bitsOf s) : Int) := by
  have := crc_from s hs s.size k 0 0 (by omega) (by omega) (by omega) hk
  simpa [ostinatoref1_CRC.f, crcN] using this

theorem bytes_from (s : ByteArray) (hs : s.size ≤ 140737488351232) (d : Nat) : ∀ (k i : Nat), 8 * i ≤ s.size → s.size / 8 - i = d → d + 8 < k →
    ostinatoref1_Bytes.l0 k s (((toB (bitsOf s)).take i).map fun x => (x.toNat : Int)) ((8 * i : Nat) : Int) = some ⟨(toB (bitsOf s)).toArray⟩ := by
  have hbl := bitsOf_length s
  induction d with
  | zero =>
    intro k i hi hd hk
    obtain ⟨k, rfl, _⟩ := more_rounds hk
    have hw : wrap64 ((s.size : Int) - ((8 * i : Nat) : Int)) = (s.size : Int) - ((8 * i : Nat) : Int) := by unfold wrap64; omega
    rw [ostinatoref1_Bytes.l0, hw, if_neg (by omega), List.take_of_length_le (by rw [toB_length, hbl]; omega), Lib.strOf_bytes]
  | succ d ih =>
    intro k i hi hd hk
    obtain ⟨k, rfl, _⟩ := more_rounds hk
    have hw : wrap64 ((s.size : Int) - ((8 * i : Nat) : Int)) = (s.size : Int) - ((8 * i : Nat) : Int) := by unfold wrap64; omega
    have hw2 : wrap64 (((8 * i : Nat) : Int) + 8) = ((8 * (i + 1) : Nat) : Int) := by unfold wrap64; omega
    have hti : i < (toB (bitsOf s)).length := by rw [toB_length, hbl]; omega
    have hx := bits_extract s (8 * i) (8 * (i + 1))
    have e8 : 8 * (i + 1) - 8 * i = 8 := by omega
    rw [e8] at hx
    have hxs : (s.extract (8 * i) (8 * (i + 1))).size ≤ 8 := by rw [← bitsOf_length, hx, List.length_take]; omega
    rw [ostinatoref1_Bytes.l0, hw, hw2, if_pos (by omega), if_pos (by omega), if_pos (by omega), if_pos (by omega), Int.toNat_natCast, Int.toNat_natCast, num_eq _ (by omega) k (by omega), Option.bind_some, if_pos (by simp [toB_length, hbl]; omega), hx]
    have e : ((toB (bitsOf s)).take i).map (fun x => (x.toNat : Int)) ++ [(num64 (((bitsOf s).drop (8 * i)).take 8) : Int) % 256] = ((toB (bitsOf s)).take (i + 1)).map (fun x => (x.toNat : Int)) := by
      rw [List.take_succ_eq_append_getElem hti, List.map_append]
      congr 1
      simp [toB]
    rw [e]
    exact ih k (i + 1) (by omega) (by omega) (by omega)
theorem bytes_eq (s : ByteArray) (hs : s.size ≤ 140737488351232) (k : Nat) (hk : s.size + 8 < k) : ostinatoref1_Bytes.f k s = some ⟨(toB (bitsOf s)).toArray⟩ := by
  have := bytes_from s hs (s.size / 8) k 0 (by omega) (by omega) (by omega)
  simpa [ostinatoref1_Bytes.f] using this
end Go.Proofs.Ytkdnldoebghclaa.Ref1

/- The document's rows of bits (package ostinatoref1), in the form in which the printed texts ask for them: total functions on rows of Bools. -/
namespace Go.Proofs.Ytkdnldoebghclaa.Plug
set_option linter.unusedVariables false
set_option linter.unusedSimpArgs false
open Go Go.RowKit Go.Proofs.Ytkdnldoebghclaa.Lib Go.Proofs.Ytkdnldoebghclaa.Bits Go.Proofs.Ytkdnldoebghclaa.BitsW Go.Proofs.YtkdnldoebghclaaW.PrintWords

def ostinatoref1_Of.f (a0 : Int) (a1 : Int) : Option (ByteArray) := if 0 ≤ a0 ∧ a0 < 18446744073709551616 then some (B (ofN a0.toNat (wid a1))) else none
theorem ostinatoref1_Of.calls (a0 : Int) (a1 : Int) (r : ByteArray) (w : World) (h : ostinatoref1_Of.f a0 a1 = some r) : Calls Try.prog 25 #[.int .u64 a0, .int .i64 a1] w fun e w' => e = .returned (.string r) ∧ Below w.heap.size w w' := by
  unfold ostinatoref1_Of.f at h
  split at h
  · rename_i hc
    simp only [Option.some.injEq] at h
    subst h
    exact QRef1.ostinatoref1_Of.calls 65 a0 a1 _ w (by have := Ref1.of_eq a0.toNat (by omega) a1 65 (by omega); rw [Int.toNat_of_nonneg hc.1] at this; exact this)
  · cases h
def ostinatoref1_Num.f (a0 : ByteArray) : Option (Int) := if a0.size ≤ 140737488351232 then some ((num64 (bitsOf a0) : Int)) else none
theorem ostinatoref1_Num.calls (a0 : ByteArray) (r : Int) (w : World) (h : ostinatoref1_Num.f a0 = some r) : Calls Try.prog 69 #[.string a0] w fun e w' => e = .returned (.int .u64 r) ∧ Drawn0 w w' := by
  unfold ostinatoref1_Num.f at h
  split at h
  · rename_i hc
    simp only [Option.some.injEq] at h
    subst h
    exact QRef1.ostinatoref1_Num.calls (a0.size + 1) a0 _ w (Ref1.num_eq a0 hc _ (by omega))
  · cases h
def ostinatoref1_Turn.f (a0 : ByteArray) (a1 : Int) : Option (ByteArray) := if a0.size ≤ 140737488351232 then some (B (turnI (bitsOf a0) a1)) else none
theorem ostinatoref1_Turn.calls (a0 : ByteArray) (a1 : Int) (r : ByteArray) (w : World) (h : ostinatoref1_Turn.f a0 a1 = some r) : Calls Try.prog 16 #[.string a0, .int .i64 a1] w fun e w' => e = .returned (.string r) ∧ Drawn0 w w' := by
  unfold ostinatoref1_Turn.f at h
  split at h
  · rename_i hc
    simp only [Option.some.injEq] at h
    subst h
    exact QRef1.ostinatoref1_Turn.calls (a0.size + 1) a0 a1 _ w (Ref1.turn_eq a0 a1 hc _ (by omega))
  · cases h
def ostinatoref1_FromBytes.f (a0 : ByteArray) : Option (ByteArray) := if a0.size ≤ 1099511627776 then some (B (fromB a0.data.toList)) else none
theorem ostinatoref1_FromBytes.calls (a0 : ByteArray) (r : ByteArray) (w : World) (h : ostinatoref1_FromBytes.f a0 = some r) : Calls Try.prog 40 #[.string a0] w fun e w' => e = .returned (.string r) ∧ Below w.heap.size w w' := by
  unfold ostinatoref1_FromBytes.f at h
  split at h
  · rename_i hc
    simp only [Option.some.injEq] at h
    subst h
    exact QRef1.ostinatoref1_FromBytes.calls (a0.size + 65) a0 _ w (Ref1.from_eq a0 hc _ (by omega))
  · cases h
def ostinatoref1_Bytes.f (a0 : ByteArray) : Option (ByteArray) := if a0.size ≤ 140737488351232 then some ((⟨(toB (bitsOf a0)).toArray⟩ : ByteArray)) else none
theorem ostinatoref1_Bytes.calls (a0 : ByteArray) (r : ByteArray) (w : World) (h : ostinatoref1_Bytes.f a0 = some r) : Calls Try.prog 70 #[.string a0] w fun e w' => e = .returned (.string r) ∧ Below w.heap.size w w' := by
  unfold ostinatoref1_Bytes.f at h
  split at h
  · rename_i hc
    simp only [Option.some.injEq] at h
    subst h
    exact QRef1.ostinatoref1_Bytes.calls (a0.size + 9) a0 _ w (Ref1.bytes_eq a0 hc _ (by omega))
  · cases h
def ostinatoref1_CRC.f (a0 : ByteArray) : Option (Int) := if a0.size ≤ 140737488351232 then some ((crcN (bitsOf a0) : Int)) else none
theorem ostinatoref1_CRC.calls (a0 : ByteArray) (r : Int) (w : World) (h : ostinatoref1_CRC.f a0 = some r) : Calls Try.prog 26 #[.string a0] w fun e w' => e = .returned (.int .u16 r) ∧ Drawn0 w w' := by
  unfold ostinatoref1_CRC.f at h
  split at h
  · rename_i hc
    simp only [Option.some.injEq] at h
    subst h
    exact QRef1.ostinatoref1_CRC.calls (a0.size + 1) a0 _ w (Ref1.crc_eq a0 hc _ (by omega))
  · cases h
def ostinatoref1_Bit.f (a0 : Bool) : Option (ByteArray) := some (B [a0])
theorem ostinatoref1_Bit.calls (a0 : Bool) (r : ByteArray) (w : World) (h : ostinatoref1_Bit.f a0 = some r) : Calls Try.prog 28 #[.bool a0] w fun e w' => e = .returned (.string r) ∧ Drawn0 w w' := by
  refine QRef1.ostinatoref1_Bit.calls a0 r w ?_
  rw [← h]
  exact Ref1.bit_eq a0
end Go.Proofs.Ytkdnldoebghclaa.Plug

