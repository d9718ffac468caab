/- The walks of package bits, continued: sums, numbers, bytes. -/
import Derived.Test.YtpmbapefchffjaaBitsWalksB
import Derived.Test.YtpmbapefchffjaaBitsNum
namespace Go.Proofs.Ytpmbapefchffjaa.BitsW
set_option linter.unusedVariables false
set_option linter.unusedSimpArgs false
open Go Go.RowKit Go.Proofs.Ytpmbapefchffjaa.Lib Go.Proofs.Ytpmbapefchffjaa.Bits Go.Proofs.YtpmbapefchffjaaW.PrintMore
attribute [local go_sem] max2_int min2_int max_two min_two

theorem ret_num {k : IntKind} {a b : Int} (h : a = b) : Ending.returned (.int k a) = .returned (.int k b) := by rw [h]

set_option maxRecDepth 100000 in
set_option maxHeartbeats 1600000 in
theorem add_calls (c : Nat) (one : Bool) (w : World) (hc : c < 65536) :
    Calls Try.prog 31 #[.int .u16 c, .bool one] w fun e w' => e = .returned (.int .u16 (addC c one)) ∧ w = w' := by
  have h1 := add_top c hc
  have h2 := add_low c
  have h3 := add_xor ((c * 2) % 32768) (by omega)
  have h4 : addC c one = ((c * 2) % 32768) ^^^ (if c.testBit 14 != one then 17817 else 0) := rfl
  have H4 := hid h4
  have H2 := hid h2
  have H3 := hid h3
  clear h2 h3 h4
  cases ht : c.testBit 14 <;> rw [ht] at h1 H4 <;> clear ht <;> cases one
  all_goals
    go_enter Try.func31, Try.ntmps31
    go_wp2
    go_ret
    exact ⟨ret_num (by rw [H4.out, H2.out]; first | exact H3.out | simp), rfl⟩

set_option maxRecDepth 100000 in
set_option maxHeartbeats 1600000 in
theorem crc_calls (s : ByteArray) (w : World) (hs : s.size ≤ 140737488351232) :
    Calls Try.prog 26 #[.string s] w fun e w' => e = .returned (.int .u16 (crcN (bitsOf s))) ∧ w = w' := by
  go_enter Try.func26, Try.ntmps26
  go_wp2
  go_loop [3, 7] (fun c i => ∃ k : Nat, k ≤ s.size ∧ i = .int .i64 k ∧ c = .int .u16 (crcN ((bitsOf s).take k))) (fun _ i => s.size - (intOf i).toNat)
  case atStart => exact ⟨0, Nat.zero_le _, rfl, rfl⟩
  case round =>
    obtain ⟨k, hk, rfl, rfl⟩ := hrel
    by_cases hlt : k < s.size
    · have hst := bits_take_snoc s k hlt
      have hcr := crcN_snoc ((bitsOf s).take k) (((s[k]'hlt).toNat : Int) == 49)
      rw [← hst] at hcr
      have HC := hid hcr
      have hl := crcN_lt ((bitsOf s).take k)
      clear hst hcr
      have hk0 : 0 ≤ (k : Int) := Int.natCast_nonneg _
      go_wp2_with (go_at_call 31; refine (add_calls _ _ _ (by omega)).mono ?_; rintro e w' ⟨rfl, rfl⟩)
      go_round
      case rel => exact ⟨k + 1, by omega, by go_num, by rw [HC.out]⟩
      case measure => simp [intOf]; omega
    · have e : k = s.size := by omega
      subst e
      go_wp2
      go_ret
      exact ⟨ret_num (by rw [List.take_of_length_le (by rw [bitsOf_length]; exact Nat.le_refl _)]), rfl⟩

set_option maxRecDepth 100000 in
set_option maxHeartbeats 1600000 in
theorem num_calls (s : ByteArray) (w : World) (hs : s.size ≤ 140737488351232) :
    Calls Try.prog 16 #[.string s] w fun e w' => e = .returned (.int .u64 (num64 (bitsOf s))) ∧ w = w' := by
  go_enter Try.func16, Try.ntmps16
  go_wp2
  go_loop [3, 7] (fun c i => ∃ k : Nat, k ≤ s.size ∧ i = .int .i64 k ∧ c = .int .u64 (num64 ((bitsOf s).take k))) (fun _ i => s.size - (intOf i).toNat)
  case atStart => exact ⟨0, Nat.zero_le _, rfl, rfl⟩
  case round =>
    obtain ⟨k, hk, rfl, rfl⟩ := hrel
    by_cases hlt : k < s.size
    · have hst := bits_take_snoc s k hlt
      have hcr := num64_snoc ((bitsOf s).take k) (((s[k]'hlt).toNat : Int) == 49)
      rw [← hst] at hcr
      have hl := num64_lt ((bitsOf s).take k)
      have h1 := shl_one (num64 ((bitsOf s).take k))
      have h2 := or_one (num64 ((bitsOf s).take k))
      clear hst
      have hk0 : 0 ≤ (k : Int) := Int.natCast_nonneg _
      generalize num64 (List.take k (bitsOf s)) = m at *
      have H1 := hid h1
      have H2 := hid h2
      clear h1 h2
      cases hb : (((s[k]'hlt).toNat : Int) == 49) <;> rw [hb] at hcr
      all_goals
        have HC := hid hcr
        clear hcr
        go_wp2
        go_round
        case rel => exact ⟨k + 1, by omega, by go_num, by rw [HC.out, H1.out]; first | (rw [H2.out]; rfl) | rfl⟩
        case measure => simp [intOf]; omega
    · have e : k = s.size := by omega
      subst e
      go_wp2
      go_ret
      exact ⟨ret_num (by rw [List.take_of_length_le (by rw [bitsOf_length]; exact Nat.le_refl _)]), rfl⟩

/-- Are all of them bits? -/
def isB (l : List UInt8) : Bool := l.all fun c => c == 48 || c == 49
theorem ret_bool {a b : Bool} (h : a = b) : Ending.returned (.bool a) = .returned (.bool b) := by rw [h]
theorem byte_at (s : ByteArray) (k : Nat) (h : k < s.size) (c : UInt8) (n : Nat) (hn : c.toNat = n) : (s.data.toList[k]'(by rw [size_list]; exact h) == c) = (((s[k]'h).toNat : Int) == (n : Int)) := by
  subst hn
  rw [Bool.eq_iff_iff, Array.getElem_toList]
  show (s[k] == c) = true ↔ _
  simp only [beq_iff_eq]
  constructor
  · intro h2; rw [h2]
  · intro h2; exact UInt8.toNat_inj.1 (by omega)

set_option maxRecDepth 100000 in
set_option maxHeartbeats 1600000 in
theorem is_calls (s : ByteArray) (w : World) (hs : s.size ≤ 140737488351232) :
    Calls Try.prog 12 #[.string s] w fun e w' => e = .returned (.bool (isB s.data.toList)) ∧ w = w' := by
  go_enter Try.func12, Try.ntmps12
  go_wp2
  go_loop [6] (fun i => ∃ k : Nat, k ≤ s.size ∧ i = .int .i64 k ∧ isB (s.data.toList.take k) = true) (fun i => s.size - (intOf i).toNat)
  case atStart => exact ⟨0, Nat.zero_le _, rfl, rfl⟩
  case round =>
    obtain ⟨k, hk, rfl, hrel⟩ := hrel
    by_cases hlt : k < s.size
    · have hl : k < s.data.toList.length := by rw [size_list]; exact hlt
      have hst : s.data.toList.take (k + 1) = s.data.toList.take k ++ [s.data.toList[k]] := List.take_succ_eq_append_getElem hl
      have h48 := byte_at s k hlt 48 48 rfl
      have h49 := byte_at s k hlt 49 49 rfl
      have HR := hid hrel
      have HS := hid hst
      clear hrel hst
      have hk0 : 0 ≤ (k : Int) := Int.natCast_nonneg _
      by_cases hg : s.data.toList[k] = 48 ∨ s.data.toList[k] = 49
      · have hnext : isB (s.data.toList.take (k + 1)) = true := by
          rw [HS.out]
          unfold isB at *
          rw [List.all_append, HR.out]
          rcases hg with h | h <;> simp [h]
        have HN := hid hnext
        clear hnext
        have hx : ((((s[k]'hlt).toNat : Int) == ((48 : Nat) : Int)) = true) ∨ ((((s[k]'hlt).toNat : Int) == ((48 : Nat) : Int)) = false ∧ (((s[k]'hlt).toNat : Int) == ((49 : Nat) : Int)) = true) := by
          rw [← h48, ← h49]
          by_cases h : s.data.toList[k] = 48
          · left; exact beq_iff_eq.2 h
          · right; exact ⟨beq_eq_false_iff_ne.2 h, beq_iff_eq.2 (hg.resolve_left h)⟩
        clear hg h48 h49
        rcases hx with h | ⟨h, h'⟩
        · have h2 : (s[k]'hlt).toNat = 48 := by have := beq_iff_eq.1 h; omega
          have h3 : (((s[k]'hlt).toNat : Int) != 48) = false := by rw [h2]; rfl
          clear h h2
          go_wp2
          go_round
          case rel => exact ⟨k + 1, by omega, by go_num, HN.out⟩
          case measure => simp [intOf]; omega
        · have h2 : (s[k]'hlt).toNat = 49 := by have := beq_iff_eq.1 h'; omega
          have h3 : (((s[k]'hlt).toNat : Int) != 48) = true := by rw [h2]; rfl
          have h4 : (((s[k]'hlt).toNat : Int) != 49) = false := by rw [h2]; rfl
          clear h h' h2
          go_wp2
          go_round
          case rel => exact ⟨k + 1, by omega, by go_num, HN.out⟩
          case measure => simp [intOf]; omega
      · have hno : isB s.data.toList = false := by
          unfold isB
          rw [List.all_eq_false]
          exact ⟨_, List.getElem_mem hl, by simp only [Bool.or_eq_true, beq_iff_eq]; exact hg⟩
        have HN := hid hno
        have h5 : s.data.toList[k] ≠ 48 := fun h => hg (.inl h)
        have h6 : s.data.toList[k] ≠ 49 := fun h => hg (.inr h)
        have h7 : (((s[k]'hlt).toNat : Int) == ((48 : Nat) : Int)) = false := by rw [← h48]; exact beq_eq_false_iff_ne.2 h5
        have h8 : (((s[k]'hlt).toNat : Int) == ((49 : Nat) : Int)) = false := by rw [← h49]; exact beq_eq_false_iff_ne.2 h6
        have h3 : (((s[k]'hlt).toNat : Int) != 48) = true := by unfold bne; rw [show (48 : Int) = ((48 : Nat) : Int) from rfl, h7]; rfl
        have h4 : (((s[k]'hlt).toNat : Int) != 49) = true := by unfold bne; rw [show (49 : Int) = ((49 : Nat) : Int) from rfl, h8]; rfl
        clear hno hg h48 h49 h5 h6 h7 h8
        go_wp2
        go_ret
        exact ⟨ret_bool HN.out.symm, rfl⟩
    · have e : k = s.size := by omega
      subst e
      have : isB s.data.toList = true := by rw [← hrel, List.take_of_length_le (by rw [size_list]; exact Nat.le_refl _)]
      have HN := hid this
      clear this hrel
      go_wp2
      go_ret
      exact ⟨ret_bool HN.out.symm, rfl⟩

theorem wid8 : wid 8 = 8 := by decide
/-- Bytes' bits. -/
def fromB (l : List UInt8) : List Bool := l.flatMap (fun c => ofN c.toNat 8)
theorem fromB_length (l : List UInt8) : (fromB l).length = 8 * l.length := by
  induction l with
  | nil => rfl
  | cons c l ih => simp only [fromB, List.flatMap_cons, List.length_append, ofN_length, List.length_cons] at *; omega
theorem ret_text {a b : ByteArray} (h : a = b) : Ending.returned (.string a) = .returned (.string b) := by rw [h]

set_option maxRecDepth 100000 in
set_option maxHeartbeats 1600000 in
theorem fromBytes_calls (s : ByteArray) (w : World) (hs : s.size ≤ 1099511627776) :
    Calls Try.prog 22 #[.string s] w fun e w' => e = .returned (.string (B (fromB s.data.toList))) ∧ Below w.heap.size w w' := by
  obtain ⟨i0, hi, hz0, hz1, hz2⟩ := info_parts info_u8
  go_enter Try.func22, Try.ntmps22
  go_wp2_with (at_make; refine make_ownB _ rfl _ _ 39 rfl 5 i0 Try.underlying39 hi hz0 hz1 hz2 (8 * s.size) _ rfl rfl (by omega) (by omega) ?_; intro w1 v0 hown0 hgrow0)
  have hB0 : Below w.heap.size w w1 := (Below.refl _ _).grown hgrow0 (Nat.le_refl _) (fun k h => by cases h)
  have hs0 : w.heap.size ≤ w1.heap.size := hB0.size
  clear hgrow0
  go_loopw [3, 11] (fun v i wr => ∃ k : Nat, k ≤ s.size ∧ i = .int .i64 k ∧ OwnB wr w.heap.size 5 v ((fromB (s.data.toList.take k)).map sg) ∧ Below w.heap.size w wr) (fun _ i _ => s.size - (intOf i).toNat)
  case atStart => exact ⟨0, Nat.zero_le _, rfl, hown0, hB0⟩
  case round =>
    obtain ⟨k, hk, rfl, hown, hBk⟩ := hrel
    clear hown0 hB0 hs0
    by_cases hlt : k < s.size
    · have hl : k < s.data.toList.length := by rw [size_list]; exact hlt
      have hlen : ((fromB (s.data.toList.take k)).map sg).length = 8 * k := by rw [List.length_map, fromB_length, List.length_take, size_list]; omega
      have hk0 : 0 ≤ (k : Int) := Int.natCast_nonneg _
      have hcb : ((s[k]'hlt).toNat : Int) < 256 := by have := (s[k]'hlt).toNat_lt; omega
      have hnext : (fromB (s.data.toList.take (k + 1))).map sg = (fromB (s.data.toList.take k)).map sg ++ (B (ofN (s[k]'hlt).toNat (wid 8))).data.toList := by
        rw [List.take_succ_eq_append_getElem hl]
        have e : wid 8 = 8 := by decide
        have e2 : s.data.toList[k] = s[k]'hlt := by rw [Array.getElem_toList]; rfl
        simp [fromB, B_toList, e, e2]
      have HN := hid hnext
      clear hnext
      go_wp2_with (first
        | (go_at_call 14; refine (of_calls _ _ _ (by omega)).mono ?_; rintro e w2 ⟨rfl, hb2⟩; have hown2 := hown.below (hb2.mono (by omega)); have hB2 := hBk.trans (hb2.mono (by have := hBk.size; omega)))
        | (at_builtin; refine app_str rfl (.tmp 14) (.tmp 19) 39 9 rfl w.heap.size 5 i0 Try.underlying39 Try.underlying9 hi hz0 hz1 hz2 _ _ rfl hown2 _ rfl (by rw [hlen, B_size, ofN_length, wid8]; omega) (by have := hB2.size; omega) ?_; intro v' w3 hown3 hgrow3))
      go_roundw
      case rel => exact ⟨k + 1, by omega, by go_num, by rw [HN.out]; exact hown3, hown2.grow hB2 hgrow3 (Nat.le_refl _) hB2.size⟩
      case measure => simp [intOf]; omega
    · have e : k = s.size := by omega
      subst e
      have e2 : s.data.toList.take s.size = s.data.toList := List.take_of_length_le (by rw [size_list]; exact Nat.le_refl _)
      rw [e2] at hown
      clear e2
      go_wp2_with (with_reducible refine conv_own rfl (.tmp 22) 39 9 5 rfl Try.underlying39 Try.underlying5 Try.underlying9 w.heap.size 5 _ _ hown rfl ?_)
      go_ret
      exact ⟨ret_text rfl, hBk⟩

/-- Each eight bits as a byte. -/
def toB (l : List Bool) : List UInt8 := (List.range (l.length / 8)).map (fun i => UInt8.ofNat (num64 ((l.drop (8 * i)).take 8)))
/-- What Bytes' loop has made of the block after k rounds. -/
def halfB (l : List Bool) (k : Nat) : List Value := byteVs ((toB l).take k) ++ List.replicate (l.length / 8 - k) (.int .u8 0)
theorem toB_length (l : List Bool) : (toB l).length = l.length / 8 := by simp [toB]
theorem halfB_step (l : List Bool) (k : Nat) (hk : k < l.length / 8) :
    (halfB l k).length = l.length / 8 ∧ (halfB l k)[k]? = some (.int .u8 0) ∧ (halfB l k).set k (.int .u8 ((num64 ((l.drop (8 * k)).take 8) : Int) % 256)) = halfB l (k + 1) := by
  have h2 : (byteVs ((toB l).take k)).length = k := by simp [byteVs, toB_length]; omega
  have e : l.length / 8 - k = (l.length / 8 - (k + 1)) + 1 := by omega
  unfold halfB
  refine ⟨by simp [byteVs, toB_length]; omega, ?_, ?_⟩
  · rw [List.getElem?_append_right (by omega), h2, Nat.sub_self, e, List.replicate_succ]
    rfl
  · rw [List.set_append_right _ _ (by omega), h2, Nat.sub_self, e, List.replicate_succ, List.set_cons_zero]
    have h3 : k < (toB l).length := by rw [toB_length]; exact hk
    rw [List.take_succ_eq_append_getElem h3]
    have h4 : (toB l)[k] = UInt8.ofNat (num64 ((l.drop (8 * k)).take 8)) := by simp [toB]
    simp [byteVs, h4]
theorem bits_extract (s : ByteArray) (i j : Nat) : bitsOf (s.extract i j) = ((bitsOf s).drop i).take (j - i) := by
  simp [bitsOf, ByteArray.data_extract, List.map_take, List.map_drop]

set_option maxRecDepth 100000 in
set_option maxHeartbeats 1600000 in
theorem bytes_calls (s : ByteArray) (w : World) (hs : s.size ≤ 140737488351232) :
    Calls Try.prog 24 #[.string s] w fun e w' => e = .returned (.string ⟨(toB (bitsOf s)).toArray⟩) ∧ Below w.heap.size w w' := by
  obtain ⟨i0, hi, hz0, hz1, hz2⟩ := info_parts info_u8
  obtain ⟨n, hn⟩ : ∃ n, s.size / 8 = n := ⟨_, rfl⟩
  have hn8 : 8 * n ≤ s.size := by omega
  have hnI : ((s.size : Int) / 8) = (n : Int) := by omega
  have hbl := bitsOf_length s
  have HN := hid hn
  clear hn
  go_enter Try.func24, Try.ntmps24
  go_wp2_with (at_make; refine make_blk _ rfl _ _ 39 rfl 5 i0 (.int .u8 0) Try.underlying39 hi hz0 hz1 rfl n rfl rfl (by rw [hz2]; omega) (by unfold maxLen; omega) ?_; intro w1 g hg hb hgrow)
  have hB : Below w.heap.size w w1 := (Below.refl _ _).grown hgrow (Nat.le_refl _) (fun k h => by cases h)
  have hb0 : Blk w1 g 5 (halfB (bitsOf s) 0) := by
    have e : (bitsOf s).length / 8 = n := by rw [hbl]; exact HN.out
    simpa [halfB, byteVs, e] using hb
  clear hb hgrow
  go_loopw [11] (fun i wr => ∃ k : Nat, k ≤ n ∧ i = .int .i64 k ∧ Blk wr g 5 (halfB (bitsOf s) k) ∧ Below w.heap.size w wr) (fun i _ => n - (intOf i).toNat)
  case atStart => exact ⟨0, Nat.zero_le _, rfl, hb0, hB⟩
  case round =>
    obtain ⟨k, hk, rfl, hbk, hBk⟩ := hrel
    clear hb0 hB
    by_cases hlt : k < n
    · obtain ⟨z1, z2, z3⟩ := halfB_step (bitsOf s) k (by rw [hbl, HN.out]; exact hlt)
      have hc := (hbk.cell k).trans z2
      have hf := hbk.frozen k
      have hx := bits_extract s (8 * k) (8 * (k + 1))
      have e8 : 8 * (k + 1) - 8 * k = 8 := by omega
      rw [e8] at hx
      rw [← hx] at z3
      have HS := hid z3
      have HX := hid (hbk.set k (.int .u8 ((num64 (bitsOf (s.extract (8 * k) (8 * (k + 1)))) : Int) % 256)))
      clear z1 z2 z3 hx e8
      have hk0 : 0 ≤ (k : Int) := Int.natCast_nonneg _
      have hkn : 8 * (k + 1) ≤ s.size := by omega
      have q1 : 0 ≤ 8 * (k : Int) := by omega
      have q2 : 8 * (k : Int) ≤ 8 * ((k : Int) + 1) := by omega
      have q3 : 8 * ((k : Int) + 1) ≤ (s.size : Int) := by omega
      have q4 : 0 ≤ 8 * ((k : Int) + 1) := by omega
      have hsl : ∀ W : World, (Instr.slice 9 (.string s) (some (.int .i64 (8 * (k : Int)))) (some (.int .i64 (8 * ((k : Int) + 1)))) none).run Try.prog W = .ok (.string (s.extract (8 * k) (8 * (k + 1)))) W := by
        intro W
        have := run_slice_text (P := Try.prog) 9 s .i64 .i64 _ _ q1 q2 q3 Try.underlying9 W
        have e1 : (8 * (k : Int)).toNat = 8 * k := by omega
        have e2 : (8 * ((k : Int) + 1)).toNat = 8 * (k + 1) := by omega
        rw [e1, e2] at this
        exact this
      have hsz : (s.extract (8 * k) (8 * (k + 1))).size ≤ 140737488351232 := by
        rw [← bitsOf_length, bits_extract, List.length_take, List.length_drop, bitsOf_length]; omega
      go_wp2_with (go_at_call 16; refine (num_calls _ _ hsz).mono ?_; rintro e w' ⟨rfl, rfl⟩)
      go_roundw
      case rel => exact ⟨k + 1, by omega, by go_num, by rw [← HS.out]; exact HX.out, hBk.setCell (by exact hg) _⟩
      case measure => simp [intOf]; omega
    · have e : k = n := by omega
      subst e
      have hend : halfB (bitsOf s) k = byteVs (toB (bitsOf s)) := by
        have e2 : (bitsOf s).length / 8 = k := by rw [hbl]; exact HN.out
        simp [halfB, e2, List.take_of_length_le (show (toB (bitsOf s)).length ≤ k by rw [toB_length, e2]; exact Nat.le_refl _)]
      have hl : (toB (bitsOf s)).length = k := by rw [toB_length, hbl]; exact HN.out
      rw [hend] at hbk
      have HL := hid hl
      clear hend hl
      go_wp2_with (with_reducible refine conv_text rfl (.tmp 27) 39 9 5 rfl Try.underlying39 Try.underlying5 Try.underlying9 g k k 5 _ (toB (bitsOf s)) rfl hbk (by rw [List.take_of_length_le (by rw [byteVs_length, HL.out]; exact Nat.le_refl _)]) HL.out ?_)
      go_ret
      exact ⟨rfl, hBk⟩
end Go.Proofs.Ytpmbapefchffjaa.BitsW
