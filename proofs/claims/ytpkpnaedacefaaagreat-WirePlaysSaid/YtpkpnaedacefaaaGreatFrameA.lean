/- Frames as the document's layer 3 says them, in plain Lean, with no program in sight. -/
import Derived.Test.YtpkpnaedacefaaaGreatBitsA
import Derived.Test.YtpkpnaedacefaaaGreatRegion
import Derived.Test.YtpkpnaedacefaaaGreatMem
import Derived.Lib.Bytealg
import Derived.Test.YtpkpnaedacefaaaGreatBitsB
namespace Go.Proofs.YtpkpnaedacefaaaGreat.Frame
set_option linter.unusedVariables false
set_option linter.unusedSimpArgs false
open Go Go.Proofs.YtpkpnaedacefaaaGreat.Bits Go.Proofs.YtpkpnaedacefaaaGreat.BitsW

/-- A digit of base 16. -/
def hexd (n : Nat) : UInt8 := if n < 10 then (48 + n).toUInt8 else (55 + n).toUInt8
/-- A number's lowest digits, the highest first. -/
def hexL (n : Nat) : Nat → List UInt8
  | 0 => []
  | k + 1 => hexd (n / 16 ^ k % 16) :: hexL n k
theorem hexL_length (n k : Nat) : (hexL n k).length = k := by
  induction k with
  | zero => rfl
  | succ k ih => simp [hexL, ih]
def signs : List UInt8 := [48, 49, 50, 51, 52, 53, 54, 55, 56, 57, 65, 66, 67, 68, 69, 70]
theorem signs_get (d : Nat) (h : d < 16) : signs[d]? = some (hexd d) := by
  have : ∀ d : Fin 16, signs[d.1]? = some (hexd d.1) := by decide
  exact this ⟨d, h⟩
/-- How many bits a frame has that begins so (0: not told yet); the error. -/
def needL (l : List Bool) : Nat × Nat :=
  if 0 < l.length ∧ l.getD 0 false = true then (0, 12)
  else if l.length ≤ 13 then (0, 0)
  else if l.getD 13 false = true then
    if l.getD 12 false = true then
      if l.length < 39 then (0, 0)
      else if l.getD 32 false = true then (39, 0)
      else (39 + 8 * min (numN ((l.drop 35).take 4)) 8, 0)
    else (0, 12)
  else
    if l.length < 19 then (0, 0)
    else if l.getD 12 false = true then (19, 0)
    else (19 + 8 * min (numN ((l.drop 15).take 4)) 8, 0)
/-- The frame that bits begin with (Ext, ID, RTR, Data), how many they are, the error. -/
def parseL (l : List Bool) : (Bool × Nat × Bool × List UInt8) × Nat × Nat :=
  if (needL l).2 ≠ 0 then ((false, 0, false, []), 0, (needL l).2)
  else if (needL l).1 = 0 ∨ l.length < (needL l).1 then ((false, 0, false, []), 0, 10)
  else if l.getD 13 false = true then
    ((true, numN ((l.drop 1).take 11) * 262144 + numN ((l.drop 14).take 18), l.getD 32 false, toB ((l.drop 39).take ((needL l).1 - 39))), (needL l).1, 0)
  else ((false, numN ((l.drop 1).take 11), l.getD 12 false, toB ((l.drop 19).take ((needL l).1 - 19))), (needL l).1, 0)
theorem bit_at (s : ByteArray) (k : Nat) (h : k < s.size) : (((s[k]'h).toNat : Int) == 49) = (bitsOf s).getD k false := by
  have h2 : k < s.data.toList.length := by rw [size_list]; exact h
  unfold bitsOf
  rw [List.getD_eq_getElem?_getD, List.getElem?_map, List.getElem?_eq_getElem h2]
  simp only [Option.map_some, Option.getD_some]
  rw [Array.getElem_toList]
  show _ = (s[k] == 49)
  rw [Bool.eq_iff_iff]
  simp only [beq_iff_eq]
  constructor
  · intro h; exact UInt8.toNat_inj.1 (by simpa using (by omega : (s[k]).toNat = 49))
  · intro h; rw [h]; rfl
end Go.Proofs.YtpkpnaedacefaaaGreat.Frame

/- The walks of package frame: texts compared, digits. -/
namespace Go.Proofs.YtpkpnaedacefaaaGreat.FrameW
set_option linter.unusedVariables false
set_option linter.unusedSimpArgs false
open Go Go.RowKit Go.Proofs.YtpkpnaedacefaaaGreat.Lib Go.Proofs.YtpkpnaedacefaaaGreat.Bits Go.Proofs.YtpkpnaedacefaaaGreat.BitsW Go.Proofs.YtpkpnaedacefaaaGreat.Frame Go.Proofs.YtpkpnaedacefaaaGreat.PrintMore
attribute [local go_sem] max2_int min2_int max_two min_two

/-- What hex's loop has made of the block after k rounds of W. -/
def halfH (n W k : Nat) : List Value := List.replicate (W - k) (.int .u8 0) ++ byteVs (hexL n k)
theorem halfH_len (n W k : Nat) (hk : k ≤ W) : (halfH n W k).length = W := by simp [halfH, byteVs_length, hexL_length]; omega
theorem halfH_get (n W k : Nat) (hk : k < W) : (halfH n W k)[W - 1 - k]? = some (.int .u8 0) := by
  unfold halfH
  rw [List.getElem?_append_left (by simp; omega)]
  rw [List.getElem?_replicate]
  simp; omega
theorem halfH_step (n W k : Nat) (hk : k < W) : (halfH n W k).set (W - 1 - k) (.int .u8 ((hexd (n / 16 ^ k % 16)).toNat : Int)) = halfH n W (k + 1) := by
  unfold halfH
  have e : W - k = (W - 1 - k) + 1 := by omega
  have e2 : W - (k + 1) = W - 1 - k := by omega
  rw [e, e2, List.replicate_succ', List.append_assoc, List.set_append_right _ _ (by simp)]
  simp [hexL, byteVs]
theorem halfH_end (n W : Nat) : halfH n W W = byteVs (hexL n W) := by simp [halfH]
theorem wraps_u32 (n : Int) (h₀ : 0 ≤ n) (h₁ : n < 2 ^ 32) : IntKind.u32.wrap n = n := by rw [IntKind.wrap_u32]; omega
theorem and_15 (n k : Nat) (hn : n < 4294967296) : Go.bits BinOp.and IntKind.u32 ((n : Int) / 2 ^ (4 * k)) 15 = ((n / 16 ^ k % 16 : Nat) : Int) := by
  have e : ((n : Int) / 2 ^ (4 * k)) = ((n / 16 ^ k : Nat) : Int) := by
    have e2 : (2 : Int) ^ (4 * k) = ((16 ^ k : Nat) : Int) := by
      rw [Int.pow_mul]; simp
    rw [e2]; simp
  have hlt : n / 16 ^ k < 4294967296 := Nat.lt_of_le_of_lt (Nat.div_le_self _ _) hn
  rw [e]
  generalize n / 16 ^ k = m at *
  have := bits_mask .u32 32 (by decide) wraps_u32 4 (by decide) (m : Int) (by omega) (by omega)
  exact this.trans (by omega)

end Go.Proofs.YtpkpnaedacefaaaGreat.FrameW

/- The walks of package frame, continued: how many bits a frame has. -/
namespace Go.Proofs.YtpkpnaedacefaaaGreat.FrameW
set_option linter.unusedVariables false
set_option linter.unusedSimpArgs false
open Go Go.RowKit Go.Proofs.YtpkpnaedacefaaaGreat.Lib Go.Proofs.YtpkpnaedacefaaaGreat.Bits Go.Proofs.YtpkpnaedacefaaaGreat.BitsW Go.Proofs.YtpkpnaedacefaaaGreat.Frame Go.Proofs.YtpkpnaedacefaaaGreat.PrintMore
attribute [local go_sem] max2_int min2_int max_two min_two

set_option maxRecDepth 100000 in
set_option maxHeartbeats 1600000 in
theorem forms_calls (w : World) :
    Calls Tryz.prog 107 #[] w fun e w' => e = .returned (.agg #[.int .i64 12, .int .i64 15, .int .i64 19, .int .i64 32, .int .i64 35, .int .i64 39]) ∧ Below w.heap.size w w' := by
  go_enter Tryz.func107, Tryz.ntmps107
  go_wp2
  exact bodyPost_ret (v := .agg #[.int .i64 12, .int .i64 15, .int .i64 19, .int .i64 32, .int .i64 35, .int .i64 39]) (by simp [results, Tryz.results107, go_sem]) rfl ⟨rfl, (Below.refl _ _).alloc (Nat.le_refl _) _⟩

theorem forms_ix0 (w : World) : (Instr.index 132 (.agg #[.int .i64 12, .int .i64 15, .int .i64 19, .int .i64 32, .int .i64 35, .int .i64 39]) (.int .i64 0)).run Tryz.prog w = .ok (.agg #[.int .i64 12, .int .i64 15, .int .i64 19]) w := by kernel_rfl
theorem forms_ix1 (w : World) : (Instr.index 132 (.agg #[.int .i64 12, .int .i64 15, .int .i64 19, .int .i64 32, .int .i64 35, .int .i64 39]) (.int .i64 1)).run Tryz.prog w = .ok (.agg #[.int .i64 32, .int .i64 35, .int .i64 39]) w := by kernel_rfl
attribute [local go_sem] forms_ix0 forms_ix1

set_option maxRecDepth 100000 in
set_option maxHeartbeats 1600000 in
theorem need_short (s : ByteArray) (w : World) (h : s.size ≤ 13) (h0 : (bitsOf s).getD 0 false = false) :
    Calls Tryz.prog 102 #[.string s] w fun e w' => e = .returned (.tuple #[.int .i64 0, .int .i64 0]) ∧ Below w.heap.size w w' := by
  have c1 : ((s.size : Int) ≤ 13) = True := eq_true (by omega)
  have c2 : decide ((s.size : Int) ≤ 13) = true := decide_eq_true (by omega)
  by_cases hz : 0 < s.size
  · have hb := bit_at s 0 hz
    rw [h0] at hb
    have e1 : (0 < (s.size : Int)) = True := eq_true (by omega)
    have e2 : decide (0 < (s.size : Int)) = true := decide_eq_true (by omega)
    clear h h0
    go_enter Tryz.func102, Tryz.ntmps102
    go_wp2_with fail
    go_ret2
    exact ⟨rfl, Below.refl _ _⟩
  · have e1 : (0 < (s.size : Int)) = False := eq_false (by omega)
    have e2 : decide (0 < (s.size : Int)) = false := decide_eq_false (by omega)
    clear h h0
    go_enter Tryz.func102, Tryz.ntmps102
    go_wp2_with fail
    go_ret2
    exact ⟨rfl, Below.refl _ _⟩
set_option maxRecDepth 100000 in
set_option maxHeartbeats 1600000 in
theorem need_one (s : ByteArray) (w : World) (hz : 0 < s.size) (h0 : (bitsOf s).getD 0 false = true) :
    Calls Tryz.prog 102 #[.string s] w fun e w' => e = .returned (.tuple #[.int .i64 0, .int .i64 12]) ∧ Below w.heap.size w w' := by
  have hb := bit_at s 0 hz
  rw [h0] at hb
  have e1 : (0 < (s.size : Int)) = True := eq_true (by omega)
  have e2 : decide (0 < (s.size : Int)) = true := decide_eq_true (by omega)
  clear h0
  go_enter Tryz.func102, Tryz.ntmps102
  go_wp2_with fail
  go_ret2
  exact ⟨rfl, Below.refl _ _⟩
set_option maxRecDepth 100000 in
set_option maxHeartbeats 1600000 in
theorem need_bad (s : ByteArray) (w : World) (hz : 13 < s.size) (h0 : (bitsOf s).getD 0 false = false) (h13 : (bitsOf s).getD 13 false = true) (h12 : (bitsOf s).getD 12 false = false) :
    Calls Tryz.prog 102 #[.string s] w fun e w' => e = .returned (.tuple #[.int .i64 0, .int .i64 12]) ∧ Below w.heap.size w w' := by
  have z0 : 0 < s.size := by omega
  have z12 : 12 < s.size := by omega
  have hb := bit_at s 0 z0
  have hb12 := bit_at s 12 z12
  have hb13 := bit_at s 13 hz
  have hb12' : (((s[12]'z12).toNat : Int) != 49) = true := by rw [bne, hb12, h12]; rfl
  rw [h0] at hb
  rw [h12] at hb12
  rw [h13] at hb13
  have e1 : (0 < (s.size : Int)) = True := eq_true (by omega)
  have e2 : decide (0 < (s.size : Int)) = true := decide_eq_true (by omega)
  have c1 : ((s.size : Int) ≤ 13) = False := eq_false (by omega)
  have c2 : decide ((s.size : Int) ≤ 13) = false := decide_eq_false (by omega)
  clear h0 h12 h13
  go_enter Tryz.func102, Tryz.ntmps102
  go_wp2_with (go_at_call 107; refine (forms_calls _).mono ?_; rintro e w1 ⟨rfl, hb1⟩)
  go_ret2
  exact ⟨rfl, hb1.alloc hb1.size _⟩
/-- What is laid of a form. -/
structure Form (w0 w : World) (g : Nat) (a b c : Int) : Prop where
  blk : Blk w g 131 [.int .i64 a, .int .i64 b, .int .i64 c]
  below : Below w0.heap.size w0 w
set_option maxRecDepth 100000 in
set_option maxHeartbeats 1600000 in
theorem need_a (s : ByteArray) (w : World) (hz : 13 < s.size) (h0 : (bitsOf s).getD 0 false = false) (h13 : (bitsOf s).getD 13 false = false) (hl : s.size < 19) :
    Calls Tryz.prog 102 #[.string s] w fun e w' => e = .returned (.tuple #[.int .i64 0, .int .i64 0]) ∧ Below w.heap.size w w' := by
  have z0 : 0 < s.size := by omega
  have hb := bit_at s 0 z0
  have hb13 := bit_at s 13 hz
  rw [h0] at hb
  rw [h13] at hb13
  have e1 : (0 < (s.size : Int)) = True := eq_true (by omega)
  have e2 : decide (0 < (s.size : Int)) = true := decide_eq_true (by omega)
  have c1 : ((s.size : Int) ≤ 13) = False := eq_false (by omega)
  have c2 : decide ((s.size : Int) ≤ 13) = false := decide_eq_false (by omega)
  have d1 : ((s.size : Int) < 19) = True := eq_true (by omega)
  have d2 : decide ((s.size : Int) < 19) = true := decide_eq_true (by omega)
  clear h0 h13
  go_enter Tryz.func102, Tryz.ntmps102
  go_wp2_with (go_at_call 107; refine (forms_calls _).mono ?_; rintro e w1 ⟨rfl, hb1⟩)
  go_ret2
  exact ⟨rfl, hb1.alloc hb1.size _⟩
set_option maxRecDepth 100000 in
set_option maxHeartbeats 1600000 in
theorem need_b (s : ByteArray) (w : World) (hz : 18 < s.size) (h0 : (bitsOf s).getD 0 false = false) (h13 : (bitsOf s).getD 13 false = false) (h12 : (bitsOf s).getD 12 false = true) :
    Calls Tryz.prog 102 #[.string s] w fun e w' => e = .returned (.tuple #[.int .i64 19, .int .i64 0]) ∧ Below w.heap.size w w' := by
  have z0 : 0 < s.size := by omega
  have z12 : 12 < s.size := by omega
  have z13 : 13 < s.size := by omega
  have hb := bit_at s 0 z0
  have hb13 := bit_at s 13 z13
  have hb12 := bit_at s 12 z12
  rw [h0] at hb
  rw [h13] at hb13
  rw [h12] at hb12
  have e1 : (0 < (s.size : Int)) = True := eq_true (by omega)
  have e2 : decide (0 < (s.size : Int)) = true := decide_eq_true (by omega)
  have c1 : ((s.size : Int) ≤ 13) = False := eq_false (by omega)
  have c2 : decide ((s.size : Int) ≤ 13) = false := decide_eq_false (by omega)
  have d1 : ((s.size : Int) < 19) = False := eq_false (by omega)
  have d2 : decide ((s.size : Int) < 19) = false := decide_eq_false (by omega)
  clear h0 h13 h12
  go_enter Tryz.func102, Tryz.ntmps102
  go_wp2_with (go_at_call 107; refine (forms_calls _).mono ?_; rintro e w1 ⟨rfl, hb1⟩)
  go_ret2
  exact ⟨rfl, hb1.alloc hb1.size _⟩
set_option maxRecDepth 100000 in
set_option maxHeartbeats 1600000 in
theorem need_c (s : ByteArray) (w : World) (hs : s.size ≤ 140737488351232) (hz : 18 < s.size) (h0 : (bitsOf s).getD 0 false = false) (h13 : (bitsOf s).getD 13 false = false) (h12 : (bitsOf s).getD 12 false = false) (M : Nat) (hMM : min (numN (((bitsOf s).drop 15).take 4)) 8 = M) :
    Calls Tryz.prog 102 #[.string s] w fun e w' => e = .returned (.tuple #[.int .i64 (19 + 8 * (M : Int)), .int .i64 0]) ∧ Below w.heap.size w w' := by
  have z0 : 0 < s.size := by omega
  have z12 : 12 < s.size := by omega
  have z13 : 13 < s.size := by omega
  have hb := bit_at s 0 z0
  have hb13 := bit_at s 13 z13
  have hb12 := bit_at s 12 z12
  rw [h0] at hb
  rw [h13] at hb13
  rw [h12] at hb12
  have e1 : (0 < (s.size : Int)) = True := eq_true (by omega)
  have e2 : decide (0 < (s.size : Int)) = true := decide_eq_true (by omega)
  have c1 : ((s.size : Int) ≤ 13) = False := eq_false (by omega)
  have c2 : decide ((s.size : Int) ≤ 13) = false := decide_eq_false (by omega)
  have d1 : ((s.size : Int) < 19) = False := eq_false (by omega)
  have d2 : decide ((s.size : Int) < 19) = false := decide_eq_false (by omega)
  have HMM := hid hMM
  clear h0 h13 h12 hMM
  go_enter Tryz.func102, Tryz.ntmps102
  go_wp2_with (go_at_call 107; refine (forms_calls _).mono ?_; rintro e w1 ⟨rfl, hb1⟩)
  have HF : Form w (w1.alloc (.cells #[.int .i64 12, .int .i64 15, .int .i64 19] 131)) w1.heap.size 12 15 19 := ⟨Blk.new _ _ _, hb1.alloc hb1.size _⟩
  clear hb1
  generalize hW : (w1.alloc (.cells #[.int .i64 12, .int .i64 15, .int .i64 19] 131)) = W1 at *
  clear hW
  have HBF := HF.blk
  have HBB := HF.below
  clear HF
  refine region_text (by kernel_rfl) (by kernel_rfl) (fun _ _ W => W = W1.drew) rfl ?_
  generalize w1.heap.size = g at *
  have k0 := HBF.drew.cell 0
  have k1 := HBF.drew.cell 1
  have k2 := HBF.drew.cell 2
  simp at k0 k1 k2
  obtain ⟨m, hm⟩ : ∃ m, numN (((bitsOf s).drop 15).take 4) = m := ⟨_, rfl⟩
  have hml : m < 16 := by
    have := numN_lt (((bitsOf s).drop 15).take 4)
    rw [hm] at this
    have h4 : (((bitsOf s).drop 15).take 4).length ≤ 4 := List.length_take_le _ _
    have : 2 ^ (((bitsOf s).drop 15).take 4).length ≤ 2 ^ 4 := Nat.pow_le_pow_right (by decide) h4
    omega
  have hnum : num64 (bitsOf (s.extract 15 19)) = m := by
    rw [bits_extract, num64_small _ (by have : (((bitsOf s).drop 15).take (19 - 15)).length ≤ 4 := List.length_take_le _ _; omega)]
    exact hm
  have hM : min m 8 = M := by rw [← hm]; exact HMM.out
  have HNUM := hid hnum
  have b0 : 0 ≤ (m : Int) := Int.natCast_nonneg _
  have b1 : (m : Int) ≤ 15 := by omega
  have b2 : IntKind.i64.wrap (m : Int) = m := by rw [IntKind.wrap_i64]; omega
  have q1 : ((19 : Int) ≤ (s.size : Int)) = True := eq_true (by omega)
  have q2 : (19 ≤ s.size) = True := eq_true (by omega)
  clear hm hnum hz
  have HM := hid hM
  have b3 : IntKind.i64.wrap (8 * (M : Int)) = 8 * (M : Int) := by rw [IntKind.wrap_i64]; omega
  have b4 : IntKind.i64.wrap (19 + 8 * (M : Int)) = 19 + 8 * (M : Int) := by rw [IntKind.wrap_i64]; omega
  clear hM
  refine t_pure (.pointer (some ⟨g, 2, none⟩)) (fun _ => rfl) (fun b γ W h => h) (fun b γ W h _ => by subst h; go_simp) ?_
  refine t_pure (.int .i64 19) (fun _ => rfl) (fun b γ W h => h) (fun b γ W h _ => by subst h; go_simp) ?_
  refine t_pure (.string s) (fun _ => rfl) (fun b γ W h => h) (fun b γ W h _ => by subst h; go_simp) ?_
  refine t_pure (.pointer (some ⟨g, 1, none⟩)) (fun _ => rfl) (fun b γ W h => h) (fun b γ W h _ => by subst h; go_simp) ?_
  refine t_pure (.int .i64 15) (fun _ => rfl) (fun b γ W h => h) (fun b γ W h _ => by subst h; go_simp) ?_
  refine t_pure (.pointer (some ⟨g, 2, none⟩)) (fun _ => rfl) (fun b γ W h => h) (fun b γ W h _ => by subst h; go_simp) ?_
  refine t_pure (.int .i64 19) (fun _ => rfl) (fun b γ W h => h) (fun b γ W h _ => by subst h; go_simp) ?_
  refine t_pure (.string (s.extract 15 19)) (fun _ => rfl) (fun b γ W h => h) (fun b γ W h _ => by subst h; go_simp) ?_
  refine t_call (.int .u64 m) (fun _ => rfl) (f := 106) (args := #[.string (s.extract 15 19)]) (fun b γ W h _ => by subst h; go_simp) (fun b γ W h _ => (num_calls _ W (by rw [ByteArray.size_extract]; omega)).mono ?_) ?_
  · rintro e w2 ⟨rfl, rfl⟩
    exact ⟨by rw [HNUM.out], h⟩
  refine t_pure (.int .i64 m) (fun _ => rfl) (fun b γ W h => h) (fun b γ W h _ => by subst h; go_simp) ?_
  refine t_pure (.int .i64 M) (fun _ => rfl) (fun b γ W h => h) (fun b γ W h _ => by subst h; go_simp; have := HM.out; split <;> omega) ?_
  refine t_pure (.int .i64 (8 * (M : Int))) (fun _ => rfl) (fun b γ W h => h) (fun b γ W h _ => by subst h; go_simp) ?_
  refine t_pure (.int .i64 (19 + 8 * (M : Int))) (fun _ => rfl) (fun b γ W h => h) (fun b γ W h _ => by subst h; go_simp) ?_
  refine t_pure (.int .i64 (19 + 8 * (M : Int))) (fun _ => rfl) (fun b γ W h => h) (fun b γ W h _ => by subst h; go_simp) ?_
  refine t_pure (.int .i64 0) (fun _ => rfl) (fun b γ W h => h) (fun b γ W h _ => by subst h; go_simp) ?_
  refine t_end ?_
  intro bq gq w5 hall hS
  subst hS
  simp only [Act.put, List.setIfInBounds_toArray, List.set_cons_zero, List.set_cons_succ]
  go_wp2_with fail
  go_ret2
  exact ⟨rfl, HBB.drew⟩

set_option maxRecDepth 100000 in
set_option maxHeartbeats 1600000 in
theorem need_xa (s : ByteArray) (w : World) (hz : 13 < s.size) (h0 : (bitsOf s).getD 0 false = false) (h13 : (bitsOf s).getD 13 false = true) (h12 : (bitsOf s).getD 12 false = true) (hl : s.size < 39) :
    Calls Tryz.prog 102 #[.string s] w fun e w' => e = .returned (.tuple #[.int .i64 0, .int .i64 0]) ∧ Below w.heap.size w w' := by
  have z0 : 0 < s.size := by omega
  have z12 : 12 < s.size := by omega
  have z13 : 13 < s.size := by omega
  have hb := bit_at s 0 z0
  have hb12 := bit_at s 12 z12
  have hb13 := bit_at s 13 z13
  have hb12' : (((s[12]'z12).toNat : Int) != 49) = false := by rw [bne, hb12, h12]; rfl
  rw [h0] at hb
  rw [h12] at hb12
  rw [h13] at hb13
  have e1 : (0 < (s.size : Int)) = True := eq_true (by omega)
  have e2 : decide (0 < (s.size : Int)) = true := decide_eq_true (by omega)
  have c1 : ((s.size : Int) ≤ 13) = False := eq_false (by omega)
  have c2 : decide ((s.size : Int) ≤ 13) = false := decide_eq_false (by omega)
  have d1 : ((s.size : Int) < 39) = True := eq_true (by omega)
  have d2 : decide ((s.size : Int) < 39) = true := decide_eq_true (by omega)
  clear h0 h13 h12
  go_enter Tryz.func102, Tryz.ntmps102
  go_wp2_with fail
  refine (forms_calls _).mono ?_
  rintro e w1 ⟨rfl, hb1⟩
  go_wp2_with fail
  refine (forms_calls _).mono ?_
  rintro e w2 ⟨rfl, hb2⟩
  have hx := (Blk.new w1 [.int .i64 12, .int .i64 15, .int .i64 19] 131).below hb2
  have x0 := hx.cell 0
  have x1 := hx.cell 1
  have x2 := hx.cell 2
  have f0 := hx.frozen 0
  have f1 := hx.frozen 1
  have f2 := hx.frozen 2
  simp at x0 x1 x2
  have hsz := hb1.size
  have HB2 := hid ((hb1.alloc hb1.size _).trans (hb2.mono (hb1.alloc hb1.size _).size))
  have HX2 := hid (((hx.set 0 (.int .i64 32)).set 1 (.int .i64 35)).set 2 (.int .i64 39))
  clear hb1 hb2 hx
  go_wp2_with fail
  go_ret2
  exact ⟨rfl, ((HB2.out.setCell (by exact hsz) _).setCell (by exact hsz) _).setCell (by exact hsz) _⟩
set_option maxRecDepth 100000 in
set_option maxHeartbeats 1600000 in
theorem need_xb (s : ByteArray) (w : World) (hz : 38 < s.size) (h0 : (bitsOf s).getD 0 false = false) (h13 : (bitsOf s).getD 13 false = true) (h12 : (bitsOf s).getD 12 false = true) (h32 : (bitsOf s).getD 32 false = true) :
    Calls Tryz.prog 102 #[.string s] w fun e w' => e = .returned (.tuple #[.int .i64 39, .int .i64 0]) ∧ Below w.heap.size w w' := by
  have z0 : 0 < s.size := by omega
  have z12 : 12 < s.size := by omega
  have z13 : 13 < s.size := by omega
  have hb := bit_at s 0 z0
  have hb12 := bit_at s 12 z12
  have hb13 := bit_at s 13 z13
  have hb12' : (((s[12]'z12).toNat : Int) != 49) = false := by rw [bne, hb12, h12]; rfl
  rw [h0] at hb
  rw [h12] at hb12
  rw [h13] at hb13
  have e1 : (0 < (s.size : Int)) = True := eq_true (by omega)
  have e2 : decide (0 < (s.size : Int)) = true := decide_eq_true (by omega)
  have c1 : ((s.size : Int) ≤ 13) = False := eq_false (by omega)
  have c2 : decide ((s.size : Int) ≤ 13) = false := decide_eq_false (by omega)
  have z32 : 32 < s.size := by omega
  have hb32 := bit_at s 32 z32
  rw [h32] at hb32
  have d1 : ((s.size : Int) < 39) = False := eq_false (by omega)
  have d2 : decide ((s.size : Int) < 39) = false := decide_eq_false (by omega)
  clear h0 h13 h12 h32
  go_enter Tryz.func102, Tryz.ntmps102
  go_wp2_with fail
  refine (forms_calls _).mono ?_
  rintro e w1 ⟨rfl, hb1⟩
  go_wp2_with fail
  refine (forms_calls _).mono ?_
  rintro e w2 ⟨rfl, hb2⟩
  have hx := (Blk.new w1 [.int .i64 12, .int .i64 15, .int .i64 19] 131).below hb2
  have x0 := hx.cell 0
  have x1 := hx.cell 1
  have x2 := hx.cell 2
  have f0 := hx.frozen 0
  have f1 := hx.frozen 1
  have f2 := hx.frozen 2
  simp at x0 x1 x2
  have hsz := hb1.size
  have HB2 := hid ((hb1.alloc hb1.size _).trans (hb2.mono (hb1.alloc hb1.size _).size))
  have HX2 := hid (((hx.set 0 (.int .i64 32)).set 1 (.int .i64 35)).set 2 (.int .i64 39))
  clear hb1 hb2 hx
  go_wp2_with fail
  go_ret2
  exact ⟨rfl, ((HB2.out.setCell (by exact hsz) _).setCell (by exact hsz) _).setCell (by exact hsz) _⟩
set_option maxRecDepth 100000 in
set_option maxHeartbeats 1600000 in
theorem need_xc (s : ByteArray) (w : World) (hs : s.size ≤ 140737488351232) (hz : 38 < s.size) (h0 : (bitsOf s).getD 0 false = false) (h13 : (bitsOf s).getD 13 false = true) (h12 : (bitsOf s).getD 12 false = true) (h32 : (bitsOf s).getD 32 false = false) (M : Nat) (hMM : min (numN (((bitsOf s).drop 35).take 4)) 8 = M) :
    Calls Tryz.prog 102 #[.string s] w fun e w' => e = .returned (.tuple #[.int .i64 (39 + 8 * (M : Int)), .int .i64 0]) ∧ Below w.heap.size w w' := by
  have z0 : 0 < s.size := by omega
  have z12 : 12 < s.size := by omega
  have z13 : 13 < s.size := by omega
  have hb := bit_at s 0 z0
  have hb12 := bit_at s 12 z12
  have hb13 := bit_at s 13 z13
  have hb12' : (((s[12]'z12).toNat : Int) != 49) = false := by rw [bne, hb12, h12]; rfl
  rw [h0] at hb
  rw [h12] at hb12
  rw [h13] at hb13
  have e1 : (0 < (s.size : Int)) = True := eq_true (by omega)
  have e2 : decide (0 < (s.size : Int)) = true := decide_eq_true (by omega)
  have c1 : ((s.size : Int) ≤ 13) = False := eq_false (by omega)
  have c2 : decide ((s.size : Int) ≤ 13) = false := decide_eq_false (by omega)
  have z32 : 32 < s.size := by omega
  have hb32 := bit_at s 32 z32
  rw [h32] at hb32
  have HMM := hid hMM
  have d1 : ((s.size : Int) < 39) = False := eq_false (by omega)
  have d2 : decide ((s.size : Int) < 39) = false := decide_eq_false (by omega)
  clear h0 h13 h12 h32 hMM
  go_enter Tryz.func102, Tryz.ntmps102
  go_wp2_with fail
  refine (forms_calls _).mono ?_
  rintro e w1 ⟨rfl, hb1⟩
  go_wp2_with fail
  refine (forms_calls _).mono ?_
  rintro e w2 ⟨rfl, hb2⟩
  have hx := (Blk.new w1 [.int .i64 12, .int .i64 15, .int .i64 19] 131).below hb2
  have x0 := hx.cell 0
  have x1 := hx.cell 1
  have x2 := hx.cell 2
  have f0 := hx.frozen 0
  have f1 := hx.frozen 1
  have f2 := hx.frozen 2
  simp at x0 x1 x2
  have hsz := hb1.size
  have HB2 := hid ((hb1.alloc hb1.size _).trans (hb2.mono (hb1.alloc hb1.size _).size))
  have HX2 := hid (((hx.set 0 (.int .i64 32)).set 1 (.int .i64 35)).set 2 (.int .i64 39))
  clear hb1 hb2 hx
  go_wp2_with fail
  have HBF : Blk (((w2.setCell ⟨w1.heap.size, 0, none⟩ (.int .i64 32)).setCell ⟨w1.heap.size, 1, none⟩ (.int .i64 35)).setCell ⟨w1.heap.size, 2, none⟩ (.int .i64 39)) w1.heap.size 131 [.int .i64 32, .int .i64 35, .int .i64 39] := HX2.out
  have HBB := ((HB2.out.setCell (p := ⟨w1.heap.size, 0, none⟩) (by exact hsz) (.int .i64 32)).setCell (p := ⟨w1.heap.size, 1, none⟩) (by exact hsz) (.int .i64 35)).setCell (p := ⟨w1.heap.size, 2, none⟩) (by exact hsz) (.int .i64 39)
  generalize ((w2.setCell ⟨w1.heap.size, 0, none⟩ (.int .i64 32)).setCell ⟨w1.heap.size, 1, none⟩ (.int .i64 35)).setCell ⟨w1.heap.size, 2, none⟩ (.int .i64 39) = W1 at *
  clear HX2 HB2
  refine region_text (by kernel_rfl) (by kernel_rfl) (fun _ _ W => W = W1.drew) rfl ?_
  generalize w1.heap.size = g at *
  have k0 := HBF.drew.cell 0
  have k1 := HBF.drew.cell 1
  have k2 := HBF.drew.cell 2
  simp at k0 k1 k2
  obtain ⟨m, hm⟩ : ∃ m, numN (((bitsOf s).drop 35).take 4) = m := ⟨_, rfl⟩
  have hml : m < 16 := by
    have := numN_lt (((bitsOf s).drop 35).take 4)
    rw [hm] at this
    have h4 : (((bitsOf s).drop 35).take 4).length ≤ 4 := List.length_take_le _ _
    have : 2 ^ (((bitsOf s).drop 35).take 4).length ≤ 2 ^ 4 := Nat.pow_le_pow_right (by decide) h4
    omega
  have hnum : num64 (bitsOf (s.extract 35 39)) = m := by
    rw [bits_extract, num64_small _ (by have : (((bitsOf s).drop 35).take (39 - 35)).length ≤ 4 := List.length_take_le _ _; omega)]
    exact hm
  have hM : min m 8 = M := by rw [← hm]; exact HMM.out
  have HNUM := hid hnum
  have b0 : 0 ≤ (m : Int) := Int.natCast_nonneg _
  have b1 : (m : Int) ≤ 15 := by omega
  have b2 : IntKind.i64.wrap (m : Int) = m := by rw [IntKind.wrap_i64]; omega
  have q1 : ((39 : Int) ≤ (s.size : Int)) = True := eq_true (by omega)
  have q2 : (39 ≤ s.size) = True := eq_true (by omega)
  clear hm hnum hz
  have HM := hid hM
  have b3 : IntKind.i64.wrap (8 * (M : Int)) = 8 * (M : Int) := by rw [IntKind.wrap_i64]; omega
  have b4 : IntKind.i64.wrap (39 + 8 * (M : Int)) = 39 + 8 * (M : Int) := by rw [IntKind.wrap_i64]; omega
  clear hM
  refine t_pure (.pointer (some ⟨g, 2, none⟩)) (fun _ => rfl) (fun b γ W h => h) (fun b γ W h _ => by subst h; go_simp) ?_
  refine t_pure (.int .i64 39) (fun _ => rfl) (fun b γ W h => h) (fun b γ W h _ => by subst h; go_simp) ?_
  refine t_pure (.string s) (fun _ => rfl) (fun b γ W h => h) (fun b γ W h _ => by subst h; go_simp) ?_
  refine t_pure (.pointer (some ⟨g, 1, none⟩)) (fun _ => rfl) (fun b γ W h => h) (fun b γ W h _ => by subst h; go_simp) ?_
  refine t_pure (.int .i64 35) (fun _ => rfl) (fun b γ W h => h) (fun b γ W h _ => by subst h; go_simp) ?_
  refine t_pure (.pointer (some ⟨g, 2, none⟩)) (fun _ => rfl) (fun b γ W h => h) (fun b γ W h _ => by subst h; go_simp) ?_
  refine t_pure (.int .i64 39) (fun _ => rfl) (fun b γ W h => h) (fun b γ W h _ => by subst h; go_simp) ?_
  refine t_pure (.string (s.extract 35 39)) (fun _ => rfl) (fun b γ W h => h) (fun b γ W h _ => by subst h; go_simp) ?_
  refine t_call (.int .u64 m) (fun _ => rfl) (f := 106) (args := #[.string (s.extract 35 39)]) (fun b γ W h _ => by subst h; go_simp) (fun b γ W h _ => (num_calls _ W (by rw [ByteArray.size_extract]; omega)).mono ?_) ?_
  · rintro e w2 ⟨rfl, rfl⟩
    exact ⟨by rw [HNUM.out], h⟩
  refine t_pure (.int .i64 m) (fun _ => rfl) (fun b γ W h => h) (fun b γ W h _ => by subst h; go_simp) ?_
  refine t_pure (.int .i64 M) (fun _ => rfl) (fun b γ W h => h) (fun b γ W h _ => by subst h; go_simp; have := HM.out; split <;> omega) ?_
  refine t_pure (.int .i64 (8 * (M : Int))) (fun _ => rfl) (fun b γ W h => h) (fun b γ W h _ => by subst h; go_simp) ?_
  refine t_pure (.int .i64 (39 + 8 * (M : Int))) (fun _ => rfl) (fun b γ W h => h) (fun b γ W h _ => by subst h; go_simp) ?_
  refine t_pure (.int .i64 (39 + 8 * (M : Int))) (fun _ => rfl) (fun b γ W h => h) (fun b γ W h _ => by subst h; go_simp) ?_
  refine t_pure (.int .i64 0) (fun _ => rfl) (fun b γ W h => h) (fun b γ W h _ => by subst h; go_simp) ?_
  refine t_end ?_
  intro bq gq w5 hall hS
  subst hS
  simp only [Act.put, List.setIfInBounds_toArray, List.set_cons_zero, List.set_cons_succ]
  go_wp2_with fail
  go_ret2
  exact ⟨rfl, HBB.drew⟩

theorem need_calls (s : ByteArray) (w : World) (hs : s.size ≤ 140737488351232) :
    Calls Tryz.prog 102 #[.string s] w fun e w' => e = .returned (.tuple #[.int .i64 ((needL (bitsOf s)).1 : Int), .int .i64 ((needL (bitsOf s)).2 : Int)]) ∧ Below w.heap.size w w' := by
  have hl := bitsOf_length s
  unfold needL
  rw [hl]
  by_cases h1 : 0 < s.size ∧ (bitsOf s).getD 0 false = true
  · rw [if_pos h1]; exact need_one s w h1.1 h1.2
  · rw [if_neg h1]
    have h0 : (bitsOf s).getD 0 false = false := by
      by_cases hz : 0 < s.size
      · cases h : (bitsOf s).getD 0 false
        · rfl
        · exact absurd ⟨hz, h⟩ h1
      · have : bitsOf s = [] := List.eq_nil_of_length_eq_zero (by omega)
        rw [this]; rfl
    by_cases h2 : s.size ≤ 13
    · rw [if_pos h2]; exact need_short s w h2 h0
    · rw [if_neg h2]
      cases h13 : (bitsOf s).getD 13 false
      · rw [if_neg (by simp)]
        by_cases h3 : s.size < 19
        · rw [if_pos h3]; exact need_a s w (by omega) h0 h13 h3
        · rw [if_neg h3]
          cases h12 : (bitsOf s).getD 12 false
          · rw [if_neg (by simp)]
            have := need_c s w hs (by omega) h0 h13 h12 _ rfl
            refine this.mono ?_
            rintro e w' ⟨rfl, h⟩
            exact ⟨by simp, h⟩
          · rw [if_pos rfl]; exact need_b s w (by omega) h0 h13 h12
      · rw [if_pos rfl]
        cases h12 : (bitsOf s).getD 12 false
        · rw [if_neg (by simp)]; exact need_bad s w (by omega) h0 h13 h12
        · rw [if_pos rfl]
          by_cases h3 : s.size < 39
          · rw [if_pos h3]; exact need_xa s w (by omega) h0 h13 h12 h3
          · rw [if_neg h3]
            cases h32 : (bitsOf s).getD 32 false
            · rw [if_neg (by simp)]
              have := need_xc s w hs (by omega) h0 h13 h12 h32 _ rfl
              refine this.mono ?_
              rintro e w' ⟨rfl, h⟩
              exact ⟨by simp, h⟩
            · rw [if_pos rfl]; exact need_xb s w (by omega) h0 h13 h12 h32
end Go.Proofs.YtpkpnaedacefaaaGreat.FrameW

/- The walks of package frame, continued: a frame read. -/
namespace Go.Proofs.YtpkpnaedacefaaaGreat.FrameW
set_option linter.unusedVariables false
set_option linter.unusedSimpArgs false
open Go Go.RowKit Go.Proofs.YtpkpnaedacefaaaGreat.Lib Go.Proofs.YtpkpnaedacefaaaGreat.Bits Go.Proofs.YtpkpnaedacefaaaGreat.BitsW Go.Proofs.YtpkpnaedacefaaaGreat.Frame Go.Proofs.YtpkpnaedacefaaaGreat.PrintMore
attribute [local go_sem] max2_int min2_int max_two min_two forms_ix0 forms_ix1

section
variable {P : Program} {ops : Array Oper} {S : (Nat → Bool) → (Nat → Nat) → World → Prop} {Fin : ((Nat → Nat) → Act) → Prop} {i : Nat} {o : Oper} {rest : List Oper} {a : (Nat → Nat) → Act}
/-- New memory, nothing that waits for it having come up. -/
theorem t_alloc2 (hw : ∀ g, Region.wanted o (yielded ops (a g).tmps) = true)
    (h : ∀ b g w, S b g w → b i = false → (∀ j p, ops[j]? = some p → i ∈ needsOf p → b j = false) → ∃ w', (execOp (a g).eval o).run P w = .ok (.value (.pointer (some ⟨w.heap.size, 0, none⟩))) w' ∧ S (up b i) (upd g i w.heap.size) w')
    (hr : TextRun P ops S Fin (i + 1) rest (fun g => (a g).put o.dst (.pointer (some ⟨g i, 0, none⟩)))) : TextRun P ops S Fin i (o :: rest) a :=
  ⟨fun g => .pointer (some ⟨g i, 0, none⟩), fun g g' hg => by simp only; rw [hg i (.inl rfl)], fun b g w hs hb hj hf => .inl ⟨hw g, by
    obtain ⟨w', h1, h2⟩ := h b g w hs hb hf
    unfold Oper.wp
    rw [h1]
    exact ⟨w.heap.size, by simp [upd], h2⟩⟩, hr⟩
end
theorem frame_res {r0 : Nat} {w : World} {e r : Bool} {n : Int} {d : ByteArray} (h : Blk w r0 35 [.bool e, .int .u32 n, .bool r, .string d]) : w.cell? ⟨r0, 0, none⟩ = some (.bool e) ∧ w.cell? ⟨r0, 1, none⟩ = some (.int .u32 n) ∧ w.cell? ⟨r0, 2, none⟩ = some (.bool r) ∧ w.cell? ⟨r0, 3, none⟩ = some (.string d) := by
  have h0 := h.cell 0
  have h1 := h.cell 1
  have h2 := h.cell 2
  have h3 := h.cell 3
  simp at h0 h1 h2 h3
  exact ⟨h0, h1, h2, h3⟩
theorem frame_free {r0 : Nat} {w : World} {cs : List Value} (h : Blk w r0 35 cs) : w.frozen? ⟨r0, 0, none⟩ = false ∧ w.frozen? ⟨r0, 1, none⟩ = false ∧ w.frozen? ⟨r0, 2, none⟩ = false ∧ w.frozen? ⟨r0, 3, none⟩ = false :=
  ⟨h.frozen 0, h.frozen 1, h.frozen 2, h.frozen 3⟩
/-- What Parse gives. -/
def parseV (e : Bool) (n : Int) (r : Bool) (d : ByteArray) (k c : Int) : Value := .tuple #[.agg #[.bool e, .int .u32 n, .bool r, .string d], .int .i64 k, .int .i64 c]
/-- Four cells stored at once. -/
def set4 (w : World) (r0 : Nat) (e : Bool) (n : Int) (r : Bool) (d : ByteArray) : World :=
  (((w.setCell ⟨r0, 0, none⟩ (.bool e)).setCell ⟨r0, 1, none⟩ (.int .u32 n)).setCell ⟨r0, 2, none⟩ (.bool r)).setCell ⟨r0, 3, none⟩ (.string d)
theorem set4_blk {w : World} {r0 : Nat} {c0 c1 c2 c3 : Value} (h : Blk w r0 35 [c0, c1, c2, c3]) (e : Bool) (n : Int) (r : Bool) (d : ByteArray) : Blk (set4 w r0 e n r d) r0 35 [.bool e, .int .u32 n, .bool r, .string d] := by
  have := (((h.set 0 (.bool e)).set 1 (.int .u32 n)).set 2 (.bool r)).set 3 (.string d)
  unfold set4
  simpa using this
theorem set4_below {B : Nat} {w0 w : World} (h : Below B w0 w) {r0 : Nat} (hr : B ≤ r0) (e : Bool) (n : Int) (r : Bool) (d : ByteArray) : Below B w0 (set4 w r0 e n r d) :=
  (((h.setCell (p := ⟨r0, 0, none⟩) hr _).setCell (p := ⟨r0, 1, none⟩) hr _).setCell (p := ⟨r0, 2, none⟩) hr _).setCell (p := ⟨r0, 3, none⟩) hr _

set_option maxRecDepth 100000 in
set_option maxHeartbeats 1600000 in
theorem parse_err (s : ByteArray) (w : World) (hs : s.size ≤ 140737488351232) (h : (needL (bitsOf s)).2 = 12) :
    Calls Tryz.prog 90 #[.string s] w fun e w' => e = .returned (parseV false 0 false ⟨#[]⟩ 0 12) ∧ Below w.heap.size w w' := by
  have HN := hid (need_calls s · hs)
  obtain ⟨n, hn⟩ : ∃ n, (needL (bitsOf s)).1 = n := ⟨_, rfl⟩
  rw [h, hn] at HN
  clear h hn
  have hb0 := Blk.new w [.bool false, .int .u32 0, .bool false, .string ⟨#[]⟩] 35
  have hbl := (Below.refl w.heap.size w).alloc (Nat.le_refl _) (.cells #[.bool false, .int .u32 0, .bool false, .string ⟨#[]⟩] 35)
  have HBL := hid hbl
  clear hbl
  go_enter Tryz.func90, Tryz.ntmps90
  go_wp2_with fail
  refine (HN.out _).mono ?_
  rintro e w1 ⟨rfl, hb1⟩
  have hx := hb0.below hb1
  obtain ⟨x0, x1, x2, x3⟩ := frame_res hx
  obtain ⟨f0, f1, f2, f3⟩ := frame_free hx
  have hz := frame_res (set4_blk hx false 0 false ⟨#[]⟩)
  have hbz := set4_below (HBL.out.trans (hb1.mono HBL.out.size)) (Nat.le_refl _) false 0 false ⟨#[]⟩
  unfold set4 at hz hbz
  have HZ := hid hz
  have HBZ := hid hbz
  clear hz hbz hb1 hx hb0 HBL
  go_wp2_with fail
  obtain ⟨z0, z1, z2, z3⟩ := HZ.out
  exact bodyPost_ret (v := parseV false 0 false ⟨#[]⟩ 0 12) (by simp [results, Tryz.results90, go_sem, parseV, z0, z1, z2, z3]) rfl ⟨rfl, HBZ.out⟩
set_option maxRecDepth 100000 in
set_option maxHeartbeats 1600000 in
theorem parse_short (s : ByteArray) (w : World) (hs : s.size ≤ 140737488351232) (h : (needL (bitsOf s)).2 = 0) (hk : (needL (bitsOf s)).1 = 0 ∨ s.size < (needL (bitsOf s)).1) :
    Calls Tryz.prog 90 #[.string s] w fun e w' => e = .returned (parseV false 0 false ⟨#[]⟩ 0 10) ∧ Below w.heap.size w w' := by
  have HN := hid (need_calls s · hs)
  obtain ⟨n, hn⟩ : ∃ n, (needL (bitsOf s)).1 = n := ⟨_, rfl⟩
  rw [h, hn] at HN
  rw [hn] at hk
  clear h hn
  have hb0 := Blk.new w [.bool false, .int .u32 0, .bool false, .string ⟨#[]⟩] 35
  have hbl := (Below.refl w.heap.size w).alloc (Nat.le_refl _) (.cells #[.bool false, .int .u32 0, .bool false, .string ⟨#[]⟩] 35)
  have HBL := hid hbl
  clear hbl
  rcases (by omega : n = 0 ∨ (n ≠ 0 ∧ s.size < n)) with rfl | ⟨hn0, hsn⟩
  · go_enter Tryz.func90, Tryz.ntmps90
    go_wp2_with fail
    refine (HN.out _).mono ?_
    rintro e w1 ⟨rfl, hb1⟩
    have hx := hb0.below hb1
    obtain ⟨x0, x1, x2, x3⟩ := frame_res hx
    obtain ⟨f0, f1, f2, f3⟩ := frame_free hx
    have hz := frame_res (set4_blk hx false 0 false ⟨#[]⟩)
    have hbz := set4_below (HBL.out.trans (hb1.mono HBL.out.size)) (Nat.le_refl _) false 0 false ⟨#[]⟩
    unfold set4 at hz hbz
    have HZ := hid hz
    have HBZ := hid hbz
    clear hz hbz hb1 hx hb0 HBL
    go_wp2_with fail
    obtain ⟨z0, z1, z2, z3⟩ := HZ.out
    exact bodyPost_ret (v := parseV false 0 false ⟨#[]⟩ 0 10) (by simp [results, Tryz.results90, go_sem, parseV, z0, z1, z2, z3]) rfl ⟨rfl, HBZ.out⟩
  · have e1 : ((n : Int) == 0) = false := by rw [beq_eq_false_iff_ne]; omega
    have e2 : ((s.size : Int) < (n : Int)) = True := eq_true (by omega)
    have e3 : decide ((s.size : Int) < (n : Int)) = true := decide_eq_true (by omega)
    have e4 : (s.size < n) = True := eq_true hsn
    have e5 : (n = 0) = False := eq_false hn0
    clear hk hn0 hsn
    go_enter Tryz.func90, Tryz.ntmps90
    go_wp2_with fail
    refine (HN.out _).mono ?_
    rintro e w1 ⟨rfl, hb1⟩
    have hx := hb0.below hb1
    obtain ⟨x0, x1, x2, x3⟩ := frame_res hx
    obtain ⟨f0, f1, f2, f3⟩ := frame_free hx
    have hz := frame_res (set4_blk hx false 0 false ⟨#[]⟩)
    have hbz := set4_below (HBL.out.trans (hb1.mono HBL.out.size)) (Nat.le_refl _) false 0 false ⟨#[]⟩
    unfold set4 at hz hbz
    have HZ := hid hz
    have HBZ := hid hbz
    clear hz hbz hb1 hx hb0 HBL
    go_wp2_with fail
    obtain ⟨z0, z1, z2, z3⟩ := HZ.out
    exact bodyPost_ret (v := parseV false 0 false ⟨#[]⟩ 0 10) (by simp [results, Tryz.results90, go_sem, parseV, z0, z1, z2, z3]) rfl ⟨rfl, HBZ.out⟩
/-- What the region that lays the frame keeps. -/
def LayInv (W1 : World) (e : Bool) (n : Int) (b : Nat → Bool) (γ : Nat → Nat) (W : World) : Prop :=
  (b 8 = false → W = W1.drew) ∧ (b 8 = true → γ 8 = W1.heap.size ∧ (b 9 = false → W = W1.drew.alloc (.cells #[.bool false, .int .u32 0, .bool false, .string ⟨#[]⟩] 35)) ∧
    (b 9 = true → W = set4 (W1.drew.alloc (.cells #[.bool false, .int .u32 0, .bool false, .string ⟨#[]⟩] 35)) W1.heap.size e n false ⟨#[]⟩))
theorem num_part (s : ByteArray) (i k : Nat) (hk : k ≤ 64) : num64 (bitsOf (s.extract i (i + k))) = numN (((bitsOf s).drop i).take k) := by
  rw [bits_extract, Nat.add_sub_cancel_left, num64_small _ (by have := List.length_take_le k ((bitsOf s).drop i); omega)]
theorem num_lt (l : List Bool) (i k : Nat) : numN ((l.drop i).take k) < 2 ^ k := by
  have h1 := numN_lt ((l.drop i).take k)
  have h2 := List.length_take_le k (l.drop i)
  have : 2 ^ ((l.drop i).take k).length ≤ 2 ^ k := Nat.pow_le_pow_right (by decide) h2
  omega

theorem id_join (A B : Nat) (hA : A < 2048) (hB : B < 262144) : IntKind.u32.wrap ((A : Int) * 262144) = (A : Int) * 262144 ∧ Go.bits BinOp.or IntKind.u32 ((A : Int) * 262144) B = ((A * 262144 + B : Nat) : Int) := by
  refine ⟨by rw [IntKind.wrap_u32]; omega, ?_⟩
  have := bits_join .u32 32 (by decide) wraps_u32 18 ((A : Int) * 262144) B (by omega) (by omega) (by omega) (by omega) (by omega) (by omega)
  exact this.trans (by omega)

set_option maxRecDepth 100000 in
set_option maxHeartbeats 3200000 in
theorem parse_std (s : ByteArray) (w : World) (hs : s.size ≤ 140737488351232) (n : Nat) (hn1 : (needL (bitsOf s)).1 = n) (hn2 : (needL (bitsOf s)).2 = 0) (hn : 19 ≤ n) (hns : n ≤ s.size) (h13 : (bitsOf s).getD 13 false = false)
    (A : Nat) (hA : numN (((bitsOf s).drop 1).take 11) = A) (R : Bool) (hR : (bitsOf s).getD 12 false = R) (D : List UInt8) (hD : toB (((bitsOf s).drop 19).take (n - 19)) = D) :
    Calls Tryz.prog 90 #[.string s] w fun e w' => e = .returned (parseV false A R ⟨D.toArray⟩ n 0) ∧ Below w.heap.size w w' := by
  have HN := hid (need_calls s · hs)
  rw [hn1, hn2] at HN
  have z12 : 12 < s.size := by omega
  have z13 : 13 < s.size := by omega
  have hb13 := bit_at s 13 z13
  have hb12 := bit_at s 12 z12
  rw [h13] at hb13
  rw [hR] at hb12
  have hAl : A < 2048 := by rw [← hA]; exact num_lt _ 1 11
  have HNUM := hid (show num64 (bitsOf (s.extract 1 12)) = A by rw [← hA]; exact num_part s 1 11 (by decide))
  have HBY := hid (show toB (bitsOf (s.extract 19 n)) = D by rw [← hD, bits_extract])
  have q1 : ((12 : Int) ≤ (s.size : Int)) = True := eq_true (by omega)
  have q2 : (12 ≤ s.size) = True := eq_true (by omega)
  have zi13 : (13 : Int) < s.size := by omega
  have zi12 : (12 : Int) < s.size := by omega
  have e1 : ((n : Int) == 0) = false := by rw [beq_eq_false_iff_ne]; omega
  have e2 : ((s.size : Int) < (n : Int)) = False := eq_false (by omega)
  have e3 : decide ((s.size : Int) < (n : Int)) = false := decide_eq_false (by omega)
  have e4 : (s.size < n) = False := eq_false (by omega)
  have e5 : (n = 0) = False := eq_false (by omega)
  have e6 : IntKind.u32.wrap (A : Int) = A := by rw [IntKind.wrap_u32]; omega
  have i1 : ((n : Int) ≤ (s.size : Int)) = True := eq_true (by omega)
  have i2 : (n ≤ s.size) = True := eq_true (by omega)
  have i3 : ((19 : Int) ≤ (n : Int)) = True := eq_true (by omega)
  have i4 : (19 ≤ n) = True := eq_true (by omega)
  clear hn1 hn2 hn hns h13 hA hR hD hAl
  have hb0 := Blk.new w [.bool false, .int .u32 0, .bool false, .string ⟨#[]⟩] 35
  have hbl := (Below.refl w.heap.size w).alloc (Nat.le_refl _) (.cells #[.bool false, .int .u32 0, .bool false, .string ⟨#[]⟩] 35)
  have HBL := hid hbl
  clear hbl
  go_enter Tryz.func90, Tryz.ntmps90
  go_wp2_with fail
  refine (HN.out _).mono ?_
  rintro e w1 ⟨rfl, hb1⟩
  have hx := hb0.below hb1
  have HB1 := HBL.out.trans (hb1.mono HBL.out.size)
  have hr0 : w.heap.size < w1.heap.size := hx.lt
  clear hb0 hb1 HBL HN
  generalize hw0 : w.heap.size = r0 at *
  have HW0 := hid hw0
  clear hw0
  go_wp2_with fail
  refine region_text (by kernel_rfl) (by kernel_rfl) (LayInv w1 false A) ⟨fun _ => rfl, fun h => by simp at h⟩ ?_
  refine t_pure (.string s) (fun _ => rfl) (fun b γ W h => h) (fun b γ W h _ => by go_simp) ?_
  refine t_pure (.int .u8 ((s[13]'z13).toNat : Int)) (fun _ => rfl) (fun b γ W h => h) (fun b γ W h _ => by go_simp) ?_
  refine t_pure (.bool false) (fun _ => rfl) (fun b γ W h => h) (fun b γ W h _ => by go_simp) ?_
  refine t_pure (.string s) (fun _ => rfl) (fun b γ W h => h) (fun b γ W h _ => by go_simp) ?_
  refine t_pure (.string (s.extract 1 12)) (fun _ => rfl) (fun b γ W h => h) (fun b γ W h _ => by go_simp) ?_
  refine t_call (.int .u64 A) (fun _ => rfl) (f := 106) (args := #[.string (s.extract 1 12)]) (fun b γ W h _ => by go_simp) (fun b γ W h _ => (num_calls _ W (by rw [ByteArray.size_extract]; omega)).mono ?_) ?_
  · rintro e w2 ⟨rfl, rfl⟩
    exact ⟨by rw [HNUM.out], h⟩
  refine t_pure (.int .u32 A) (fun _ => rfl) (fun b γ W h => h) (fun b γ W h _ => by go_simp) ?_
  refine t_pure (.agg #[.bool false, .int .u32 A, .bool false, .string ⟨#[]⟩]) (fun _ => rfl) (fun b γ W h => h) (fun b γ W h _ => by go_simp) ?_
  refine t_alloc2 (fun _ => rfl) (fun b γ W h hb hf => ⟨W.alloc (.cells #[.bool false, .int .u32 0, .bool false, .string ⟨#[]⟩] 35), by go_simp, ?_⟩) ?_
  · obtain rfl := h.1 hb
    have hf9 := hf 9 _ rfl (by decide)
    exact ⟨fun h => (by simp [up] at h), fun _ => ⟨by simp [upd], fun _ => rfl, fun h9 => (by simp [up, hf9] at h9)⟩⟩
  refine t_store (fun _ => rfl) (fun b γ W h hb hn hf => ?_) ?_
  · have h8 : b 8 = true := hn 8 (by decide)
    obtain ⟨g1, g2, g3⟩ := h.2 h8
    obtain rfl := g2 hb
    have hbk := Blk.new w1.drew [.bool false, .int .u32 0, .bool false, .string ⟨#[]⟩] 35
    obtain ⟨x0, x1, x2, x3⟩ := frame_res hbk
    obtain ⟨f0, f1, f2, f3⟩ := frame_free hbk
    have hw1 : w1.drew.heap.size = w1.heap.size := rfl
    simp only [hw1] at x0 x1 x2 x3 f0 f1 f2 f3
    refine ⟨set4 (w1.drew.alloc (.cells #[.bool false, .int .u32 0, .bool false, .string ⟨#[]⟩] 35)) w1.heap.size false A false ⟨#[]⟩, ?_, ?_⟩
    · unfold set4
      simp only [g1]
      go_simp
    · have h8' : up b 9 8 = true := by simp [up, h8]
      exact ⟨fun h => (by rw [h8'] at h; cases h), fun _ => ⟨g1, fun h => (by simp [up] at h), fun _ => rfl⟩⟩
  refine t_end ?_
  intro bq gq w5 hall hS
  obtain ⟨g1, _, g3⟩ := hS.2 (hall 8 (by decide))
  obtain rfl := g3 (hall 9 (by decide))
  have hX := set4_blk (Blk.new w1.drew [.bool false, .int .u32 0, .bool false, .string ⟨#[]⟩] 35) false A false ⟨#[]⟩
  have hX : Blk (set4 (w1.drew.alloc (.cells #[.bool false, .int .u32 0, .bool false, .string ⟨#[]⟩] 35)) w1.heap.size false A false ⟨#[]⟩) w1.heap.size 35 [.bool false, .int .u32 A, .bool false, .string ⟨#[]⟩] := hX
  have hR0 : Blk (set4 (w1.drew.alloc (.cells #[.bool false, .int .u32 0, .bool false, .string ⟨#[]⟩] 35)) w1.heap.size false A false ⟨#[]⟩) r0 35 [.bool false, .int .u32 0, .bool false, .string ⟨#[]⟩] := by
    unfold set4
    exact (((((hx.drew).alloc _).far (p := ⟨w1.heap.size, 0, none⟩) (by show r0 ≠ w1.heap.size; omega) _).far (p := ⟨w1.heap.size, 1, none⟩) (by show r0 ≠ w1.heap.size; omega) _).far (p := ⟨w1.heap.size, 2, none⟩) (by show r0 ≠ w1.heap.size; omega) _).far (p := ⟨w1.heap.size, 3, none⟩) (by show r0 ≠ w1.heap.size; omega) _
  have hBW := set4_below ((HB1.drew).alloc (by exact Nat.le_of_lt hr0) (.cells #[.bool false, .int .u32 0, .bool false, .string ⟨#[]⟩] 35)) (r0 := w1.heap.size) (by omega) false A false ⟨#[]⟩
  clear hS hall g3 HB1 hx
  simp only [Act.put, List.setIfInBounds_toArray, List.set_cons_zero, List.set_cons_succ, g1]
  clear g1
  generalize w1.heap.size = x at *
  generalize set4 (w1.drew.alloc (.cells #[.bool false, .int .u32 0, .bool false, .string ⟨#[]⟩] 35)) x false A false ⟨#[]⟩ = W2 at *
  have hxr : r0 ≠ x := by omega
  have hrx : r0 ≤ x := by omega
  clear hr0
  go_wp2_with fail
  refine (forms_calls _).mono ?_
  rintro e w3 ⟨rfl, hb3⟩
  have hX3 := hX.below hb3
  have hR3 := hR0.below hb3
  have hF := Blk.new w3 [.int .i64 12, .int .i64 15, .int .i64 19] 131
  have hBW3 := hBW.trans (hb3.mono (Nat.le_of_lt hR0.lt))
  have hsz3 := Nat.le_of_lt hR3.lt
  have hBW4 := hBW3.alloc hsz3 (.cells #[.int .i64 12, .int .i64 15, .int .i64 19] 131)
  have hX4 := hX3.alloc (.cells #[.int .i64 12, .int .i64 15, .int .i64 19] 131)
  have hR4 := hR3.alloc (.cells #[.int .i64 12, .int .i64 15, .int .i64 19] 131)
  have hxf : x ≠ w3.heap.size := by have := hX3.lt; omega
  obtain ⟨x0, x1, x2, x3⟩ := frame_res hX4
  obtain ⟨f0, f1, f2, f3⟩ := frame_free hX4
  have y0 := hF.cell 0
  have y2 := hF.cell 2
  simp at y0 y2
  have HX5 := hid (hX4.set 2 (.bool R))
  have HR5 := hid (hR4.far (p := ⟨x, 2, none⟩) hxr (.bool R))
  have HB5 := hid (hBW4.setCell (p := ⟨x, 2, none⟩) (by exact hrx) (.bool R))
  clear hX hR0 hb3 hX3 hR3 hBW3 hBW hX4 hR4 hBW4 hF
  go_wp2_with fail
  refine (bytes_calls _ _ (by rw [ByteArray.size_extract]; omega)).mono ?_
  rintro e w6 ⟨rfl, hb6⟩
  rw [HBY.out]
  have hX6 := HX5.out.below hb6
  have hR6 := HR5.out.below hb6
  have hBW6 := HB5.out.trans (hb6.mono (Nat.le_of_lt HR5.out.lt))
  simp only [List.set_cons_zero, List.set_cons_succ] at hX6
  have hX7 := hX6.set 3 (.string ⟨D.toArray⟩)
  simp only [List.set_cons_zero, List.set_cons_succ] at hX7
  have hR7 := hR6.far (p := ⟨x, 3, none⟩) hxr (.string ⟨D.toArray⟩)
  have hBW7 := hBW6.setCell (p := ⟨x, 3, none⟩) (by exact hrx) (.string ⟨D.toArray⟩)
  obtain ⟨u0, u1, u2, u3⟩ := frame_res hX6
  obtain ⟨v0, v1, v2, v3⟩ := frame_free hX6
  obtain ⟨s0, s1, s2, s3⟩ := frame_res hX7
  obtain ⟨t0, t1, t2, t3⟩ := frame_free hR7
  obtain ⟨r1, r2, r3, r4⟩ := frame_res hR7
  have hz := frame_res (set4_blk hR7 false A R ⟨D.toArray⟩)
  have hbz := set4_below hBW7 (Nat.le_refl _) false A R ⟨D.toArray⟩
  unfold set4 at hz hbz
  have HZ := hid hz
  have HBZ := hid hbz
  clear hz hbz hb6 hX6 hR6 hBW6 hX7 hR7 hBW7 HX5 HR5 HB5 x0 x1 x2 x3 f0 f1 f2 f3 y0 y2
  go_wp2_with fail
  obtain ⟨z0, z1, z2, z3⟩ := HZ.out
  exact bodyPost_ret (v := parseV false A R ⟨D.toArray⟩ n 0) (by simp [results, Tryz.results90, go_sem, parseV, z0, z1, z2, z3]) rfl ⟨rfl, by rw [HW0.out]; exact HBZ.out⟩
set_option maxRecDepth 100000 in
set_option maxHeartbeats 3200000 in
theorem parse_ext (s : ByteArray) (w : World) (hs : s.size ≤ 140737488351232) (n : Nat) (hn1 : (needL (bitsOf s)).1 = n) (hn2 : (needL (bitsOf s)).2 = 0) (hn : 39 ≤ n) (hns : n ≤ s.size) (h13 : (bitsOf s).getD 13 false = true)
    (A : Nat) (hA : numN (((bitsOf s).drop 1).take 11) = A) (B : Nat) (hB : numN (((bitsOf s).drop 14).take 18) = B) (R : Bool) (hR : (bitsOf s).getD 32 false = R) (D : List UInt8) (hD : toB (((bitsOf s).drop 39).take (n - 39)) = D) :
    Calls Tryz.prog 90 #[.string s] w fun e w' => e = .returned (parseV true ((A * 262144 + B : Nat) : Int) R ⟨D.toArray⟩ n 0) ∧ Below w.heap.size w w' := by
  have HN := hid (need_calls s · hs)
  rw [hn1, hn2] at HN
  have z32 : 32 < s.size := by omega
  have z13 : 13 < s.size := by omega
  have hb13 := bit_at s 13 z13
  have hb32 := bit_at s 32 z32
  rw [h13] at hb13
  rw [hR] at hb32
  have hAl : A < 2048 := by rw [← hA]; exact num_lt _ 1 11
  have HNUM := hid (show num64 (bitsOf (s.extract 1 12)) = A by rw [← hA]; exact num_part s 1 11 (by decide))
  have hBl : B < 262144 := by rw [← hB]; exact num_lt _ 14 18
  have HNUB := hid (show num64 (bitsOf (s.extract 14 32)) = B by rw [← hB]; exact num_part s 14 18 (by decide))
  have p1 : ((32 : Int) ≤ (s.size : Int)) = True := eq_true (by omega)
  have p2 : (32 ≤ s.size) = True := eq_true (by omega)
  have HID := hid (id_join A B hAl hBl)
  have HBY := hid (show toB (bitsOf (s.extract 39 n)) = D by rw [← hD, bits_extract])
  have q1 : ((12 : Int) ≤ (s.size : Int)) = True := eq_true (by omega)
  have q2 : (12 ≤ s.size) = True := eq_true (by omega)
  have zi13 : (13 : Int) < s.size := by omega
  have zi32 : (32 : Int) < s.size := by omega
  have e1 : ((n : Int) == 0) = false := by rw [beq_eq_false_iff_ne]; omega
  have e2 : ((s.size : Int) < (n : Int)) = False := eq_false (by omega)
  have e3 : decide ((s.size : Int) < (n : Int)) = false := decide_eq_false (by omega)
  have e4 : (s.size < n) = False := eq_false (by omega)
  have e5 : (n = 0) = False := eq_false (by omega)
  have e6 : IntKind.u32.wrap (A : Int) = A := by rw [IntKind.wrap_u32]; omega
  have e7 : IntKind.u32.wrap (B : Int) = B := by rw [IntKind.wrap_u32]; omega
  have i1 : ((n : Int) ≤ (s.size : Int)) = True := eq_true (by omega)
  have i2 : (n ≤ s.size) = True := eq_true (by omega)
  have i3 : ((39 : Int) ≤ (n : Int)) = True := eq_true (by omega)
  have i4 : (39 ≤ n) = True := eq_true (by omega)
  clear hn1 hn2 hn hns h13 hA hR hD hAl hB hBl
  have hb0 := Blk.new w [.bool false, .int .u32 0, .bool false, .string ⟨#[]⟩] 35
  have hbl := (Below.refl w.heap.size w).alloc (Nat.le_refl _) (.cells #[.bool false, .int .u32 0, .bool false, .string ⟨#[]⟩] 35)
  have HBL := hid hbl
  clear hbl
  go_enter Tryz.func90, Tryz.ntmps90
  go_wp2_with fail
  refine (HN.out _).mono ?_
  rintro e w1 ⟨rfl, hb1⟩
  have hx := hb0.below hb1
  have HB1 := HBL.out.trans (hb1.mono HBL.out.size)
  have hr0 : w.heap.size < w1.heap.size := hx.lt
  clear hb0 hb1 HBL HN
  generalize hw0 : w.heap.size = r0 at *
  have HW0 := hid hw0
  clear hw0
  go_wp2_with fail
  refine region_text (by kernel_rfl) (by kernel_rfl) (LayInv w1 true A) ⟨fun _ => rfl, fun h => by simp at h⟩ ?_
  refine t_pure (.string s) (fun _ => rfl) (fun b γ W h => h) (fun b γ W h _ => by go_simp) ?_
  refine t_pure (.int .u8 ((s[13]'z13).toNat : Int)) (fun _ => rfl) (fun b γ W h => h) (fun b γ W h _ => by go_simp) ?_
  refine t_pure (.bool true) (fun _ => rfl) (fun b γ W h => h) (fun b γ W h _ => by go_simp) ?_
  refine t_pure (.string s) (fun _ => rfl) (fun b γ W h => h) (fun b γ W h _ => by go_simp) ?_
  refine t_pure (.string (s.extract 1 12)) (fun _ => rfl) (fun b γ W h => h) (fun b γ W h _ => by go_simp) ?_
  refine t_call (.int .u64 A) (fun _ => rfl) (f := 106) (args := #[.string (s.extract 1 12)]) (fun b γ W h _ => by go_simp) (fun b γ W h _ => (num_calls _ W (by rw [ByteArray.size_extract]; omega)).mono ?_) ?_
  · rintro e w2 ⟨rfl, rfl⟩
    exact ⟨by rw [HNUM.out], h⟩
  refine t_pure (.int .u32 A) (fun _ => rfl) (fun b γ W h => h) (fun b γ W h _ => by go_simp) ?_
  refine t_pure (.agg #[.bool true, .int .u32 A, .bool false, .string ⟨#[]⟩]) (fun _ => rfl) (fun b γ W h => h) (fun b γ W h _ => by go_simp) ?_
  refine t_alloc2 (fun _ => rfl) (fun b γ W h hb hf => ⟨W.alloc (.cells #[.bool false, .int .u32 0, .bool false, .string ⟨#[]⟩] 35), by go_simp, ?_⟩) ?_
  · obtain rfl := h.1 hb
    have hf9 := hf 9 _ rfl (by decide)
    exact ⟨fun h => (by simp [up] at h), fun _ => ⟨by simp [upd], fun _ => rfl, fun h9 => (by simp [up, hf9] at h9)⟩⟩
  refine t_store (fun _ => rfl) (fun b γ W h hb hn hf => ?_) ?_
  · have h8 : b 8 = true := hn 8 (by decide)
    obtain ⟨g1, g2, g3⟩ := h.2 h8
    obtain rfl := g2 hb
    have hbk := Blk.new w1.drew [.bool false, .int .u32 0, .bool false, .string ⟨#[]⟩] 35
    obtain ⟨x0, x1, x2, x3⟩ := frame_res hbk
    obtain ⟨f0, f1, f2, f3⟩ := frame_free hbk
    have hw1 : w1.drew.heap.size = w1.heap.size := rfl
    simp only [hw1] at x0 x1 x2 x3 f0 f1 f2 f3
    refine ⟨set4 (w1.drew.alloc (.cells #[.bool false, .int .u32 0, .bool false, .string ⟨#[]⟩] 35)) w1.heap.size true A false ⟨#[]⟩, ?_, ?_⟩
    · unfold set4
      simp only [g1]
      go_simp
    · have h8' : up b 9 8 = true := by simp [up, h8]
      exact ⟨fun h => (by rw [h8'] at h; cases h), fun _ => ⟨g1, fun h => (by simp [up] at h), fun _ => rfl⟩⟩
  refine t_end ?_
  intro bq gq w5 hall hS
  obtain ⟨g1, _, g3⟩ := hS.2 (hall 8 (by decide))
  obtain rfl := g3 (hall 9 (by decide))
  have hX := set4_blk (Blk.new w1.drew [.bool false, .int .u32 0, .bool false, .string ⟨#[]⟩] 35) true A false ⟨#[]⟩
  have hX : Blk (set4 (w1.drew.alloc (.cells #[.bool false, .int .u32 0, .bool false, .string ⟨#[]⟩] 35)) w1.heap.size true A false ⟨#[]⟩) w1.heap.size 35 [.bool true, .int .u32 A, .bool false, .string ⟨#[]⟩] := hX
  have hR0 : Blk (set4 (w1.drew.alloc (.cells #[.bool false, .int .u32 0, .bool false, .string ⟨#[]⟩] 35)) w1.heap.size true A false ⟨#[]⟩) r0 35 [.bool false, .int .u32 0, .bool false, .string ⟨#[]⟩] := by
    unfold set4
    exact (((((hx.drew).alloc _).far (p := ⟨w1.heap.size, 0, none⟩) (by show r0 ≠ w1.heap.size; omega) _).far (p := ⟨w1.heap.size, 1, none⟩) (by show r0 ≠ w1.heap.size; omega) _).far (p := ⟨w1.heap.size, 2, none⟩) (by show r0 ≠ w1.heap.size; omega) _).far (p := ⟨w1.heap.size, 3, none⟩) (by show r0 ≠ w1.heap.size; omega) _
  have hBW := set4_below ((HB1.drew).alloc (by exact Nat.le_of_lt hr0) (.cells #[.bool false, .int .u32 0, .bool false, .string ⟨#[]⟩] 35)) (r0 := w1.heap.size) (by omega) true A false ⟨#[]⟩
  clear hS hall g3 HB1 hx
  simp only [Act.put, List.setIfInBounds_toArray, List.set_cons_zero, List.set_cons_succ, g1]
  clear g1
  generalize w1.heap.size = x at *
  generalize set4 (w1.drew.alloc (.cells #[.bool false, .int .u32 0, .bool false, .string ⟨#[]⟩] 35)) x true A false ⟨#[]⟩ = W2 at *
  have hxr : r0 ≠ x := by omega
  have hrx : r0 ≤ x := by omega
  clear hr0
  go_wp2_with fail
  refine (forms_calls _).mono ?_
  rintro e w3 ⟨rfl, hb3⟩
  have hX3 := (hX.below hb3).alloc (.cells #[.int .i64 12, .int .i64 15, .int .i64 19] 131)
  have hR3 := (hR0.below hb3).alloc (.cells #[.int .i64 12, .int .i64 15, .int .i64 19] 131)
  have hF3 := Blk.new w3 [.int .i64 12, .int .i64 15, .int .i64 19] 131
  have hxf : x ≠ w3.heap.size := by have := (hX.below hb3).lt; omega
  have hrf : r0 ≠ w3.heap.size := by have := (hR0.below hb3).lt; omega
  have hrf2 : r0 ≤ w3.heap.size := Nat.le_of_lt (hR0.below hb3).lt
  have hBW3 := (hBW.trans (hb3.mono (Nat.le_of_lt hR0.lt))).alloc hrf2 (.cells #[.int .i64 12, .int .i64 15, .int .i64 19] 131)
  obtain ⟨x0, x1, x2, x3⟩ := frame_res hX3
  clear hX hR0 hBW hb3
  go_wp2_with fail
  refine (forms_calls _).mono ?_
  rintro e w4 ⟨rfl, hb4⟩
  have hX4 := hX3.below hb4
  have hR4 := hR3.below hb4
  have hF4 := hF3.below hb4
  have hBW4 := hBW3.trans (hb4.mono (Nat.le_of_lt hR3.lt))
  generalize w3.heap.size = f at *
  have y0 := hF4.cell 0
  have y1 := hF4.cell 1
  have y2 := hF4.cell 2
  have v0 := hF4.frozen 0
  have v1 := hF4.frozen 1
  have v2 := hF4.frozen 2
  simp at y0 y1 y2
  have HF5 := hid (((hF4.set 0 (.int .i64 32)).set 1 (.int .i64 35)).set 2 (.int .i64 39))
  have HX5 := hid (((hX4.far (p := ⟨f, 0, none⟩) hxf (.int .i64 32)).far (p := ⟨f, 1, none⟩) hxf (.int .i64 35)).far (p := ⟨f, 2, none⟩) hxf (.int .i64 39))
  have HR5 := hid (((hR4.far (p := ⟨f, 0, none⟩) hrf (.int .i64 32)).far (p := ⟨f, 1, none⟩) hrf (.int .i64 35)).far (p := ⟨f, 2, none⟩) hrf (.int .i64 39))
  have HB5 := hid (((hBW4.setCell (p := ⟨f, 0, none⟩) (by exact hrf2) (.int .i64 32)).setCell (p := ⟨f, 1, none⟩) (by exact hrf2) (.int .i64 35)).setCell (p := ⟨f, 2, none⟩) (by exact hrf2) (.int .i64 39))
  clear hX3 hR3 hF3 hBW3 hb4 hX4 hR4 hF4 hBW4
  go_wp2_with fail
  have hF5 := HF5.out
  have hX5 := HX5.out
  have hR5 := HR5.out
  have hB5 := HB5.out
  simp only [List.set_cons_zero, List.set_cons_succ] at hF5
  clear HF5 HX5 HR5 HB5 x0 x1 x2 x3 y0 y1 y2 v0 v1 v2
  generalize ((w4.setCell ⟨f, 0, none⟩ (.int .i64 32)).setCell ⟨f, 1, none⟩ (.int .i64 35)).setCell ⟨f, 2, none⟩ (.int .i64 39) = W5 at *
  refine region_text (by kernel_rfl) (by kernel_rfl) (fun b _ W => (b 9 = false → W = W5.drew) ∧ (b 9 = true → W = W5.drew.setCell ⟨x, 1, none⟩ (.int .u32 ((A * 262144 + B : Nat) : Int)))) ⟨fun _ => rfl, fun h => by simp at h⟩ ?_
  have HX6 := hX5.drew
  obtain ⟨x0, x1, x2, x3⟩ := frame_res HX6
  obtain ⟨f0, f1, f2, f3⟩ := frame_free HX6
  refine t_pure (.pointer (some ⟨x, 1, none⟩)) (fun _ => rfl) (fun b γ W h => h) (fun b γ W h _ => by go_simp) ?_
  refine t_run (.int .u32 A) (fun _ => rfl) (fun b γ W h hb _ hf => ⟨W, ?_, h⟩) ?_
  · obtain rfl := h.1 (hf 9 _ rfl (by decide))
    go_simp
  refine t_pure (.int .u32 (A * 262144)) (fun _ => rfl) (fun b γ W h => h) (fun b γ W h _ => by have e8 := HID.out.1; go_simp) ?_
  refine t_pure (.string s) (fun _ => rfl) (fun b γ W h => h) (fun b γ W h _ => by go_simp) ?_
  refine t_pure (.string (s.extract 14 32)) (fun _ => rfl) (fun b γ W h => h) (fun b γ W h _ => by go_simp) ?_
  refine t_call (.int .u64 B) (fun _ => rfl) (f := 106) (args := #[.string (s.extract 14 32)]) (fun b γ W h _ => by go_simp) (fun b γ W h _ => (num_calls _ W (by rw [ByteArray.size_extract]; omega)).mono ?_) ?_
  · rintro e w2 ⟨rfl, rfl⟩
    exact ⟨by rw [HNUB.out], h⟩
  refine t_pure (.int .u32 B) (fun _ => rfl) (fun b γ W h => h) (fun b γ W h _ => by go_simp) ?_
  refine t_pure (.int .u32 ((A * 262144 + B : Nat) : Int)) (fun _ => rfl) (fun b γ W h => h) (fun b γ W h _ => by have e8 := HID.out.2; go_simp) ?_
  refine t_pure (.pointer (some ⟨x, 1, none⟩)) (fun _ => rfl) (fun b γ W h => h) (fun b γ W h _ => by go_simp) ?_
  refine t_store (fun _ => rfl) (fun b γ W h hb hn hf => ?_) ?_
  · obtain rfl := h.1 hb
    exact ⟨W5.drew.setCell ⟨x, 1, none⟩ (.int .u32 ((A * 262144 + B : Nat) : Int)), by go_simp, fun h => (by simp [up] at h), fun _ => rfl⟩
  refine t_end ?_
  intro bq gq w6 hall hS
  obtain rfl := hS.2 (hall 9 (by decide))
  have hX7 := HX6.set 1 (.int .u32 ((A * 262144 + B : Nat) : Int))
  simp only [List.set_cons_zero, List.set_cons_succ] at hX7
  have hR7 := (hR5.drew).far (p := ⟨x, 1, none⟩) hxr (.int .u32 ((A * 262144 + B : Nat) : Int))
  have hF7 := (hF5.drew).far (p := ⟨x, 1, none⟩) (fun e => hxf e.symm) (.int .u32 ((A * 262144 + B : Nat) : Int))
  have hB7 := (hB5.drew).setCell (p := ⟨x, 1, none⟩) (by exact hrx) (.int .u32 ((A * 262144 + B : Nat) : Int))
  clear hS hall hX5 hR5 hF5 hB5 HX6 x0 x1 x2 x3 f0 f1 f2 f3
  simp only [Act.put, List.setIfInBounds_toArray, List.set_cons_zero, List.set_cons_succ]
  generalize hI : A * 262144 + B = I at *
  have HI := hid hI
  clear hI
  generalize W5.drew.setCell ⟨x, 1, none⟩ (.int .u32 (I : Int)) = W7 at *
  obtain ⟨x0, x1, x2, x3⟩ := frame_res hX7
  obtain ⟨f0, f1, f2, f3⟩ := frame_free hX7
  have y0 := hF7.cell 0
  have y2 := hF7.cell 2
  simp at y0 y2
  have HX5 := hid (hX7.set 2 (.bool R))
  have HR5 := hid (hR7.far (p := ⟨x, 2, none⟩) hxr (.bool R))
  have HF5 := hid (hF7.far (p := ⟨x, 2, none⟩) (fun e => hxf e.symm) (.bool R))
  have HB5 := hid (hB7.setCell (p := ⟨x, 2, none⟩) (by exact hrx) (.bool R))
  have hfx : f ≠ x := fun e => hxf e.symm
  clear hX7 hR7 hB7 hF7
  go_wp2_with fail
  refine (bytes_calls _ _ (by rw [ByteArray.size_extract]; omega)).mono ?_
  rintro e w6 ⟨rfl, hb6⟩
  rw [HBY.out]
  have hX6 := HX5.out.below hb6
  have hR6 := HR5.out.below hb6
  have hBW6 := HB5.out.trans (hb6.mono (Nat.le_of_lt HR5.out.lt))
  simp only [List.set_cons_zero, List.set_cons_succ] at hX6
  have hX7 := hX6.set 3 (.string ⟨D.toArray⟩)
  simp only [List.set_cons_zero, List.set_cons_succ] at hX7
  have hR7 := hR6.far (p := ⟨x, 3, none⟩) hxr (.string ⟨D.toArray⟩)
  have hBW7 := hBW6.setCell (p := ⟨x, 3, none⟩) (by exact hrx) (.string ⟨D.toArray⟩)
  obtain ⟨u0, u1, u2, u3⟩ := frame_res hX6
  obtain ⟨v0, v1, v2, v3⟩ := frame_free hX6
  obtain ⟨s0, s1, s2, s3⟩ := frame_res hX7
  obtain ⟨t0, t1, t2, t3⟩ := frame_free hR7
  obtain ⟨r1, r2, r3, r4⟩ := frame_res hR7
  have hz := frame_res (set4_blk hR7 true I R ⟨D.toArray⟩)
  have hbz := set4_below hBW7 (Nat.le_refl _) true I R ⟨D.toArray⟩
  unfold set4 at hz hbz
  have HZ := hid hz
  have HBZ := hid hbz
  clear hz hbz hb6 hX6 hR6 hBW6 hX7 hR7 hBW7 HX5 HR5 HB5 HF5 x0 x1 x2 x3 f0 f1 f2 f3 y0 y2
  go_wp2_with fail
  obtain ⟨z0, z1, z2, z3⟩ := HZ.out
  exact bodyPost_ret (v := parseV true I R ⟨D.toArray⟩ n 0) (by simp [results, Tryz.results90, go_sem, parseV, z0, z1, z2, z3]) rfl ⟨by rw [HI.out], by rw [HW0.out]; exact HBZ.out⟩
/-- The needs of a row that is one. -/
theorem need_ge (l : List Bool) (h0 : (needL l).2 = 0) (h1 : (needL l).1 ≠ 0) : (l.getD 13 false = true → 39 ≤ (needL l).1) ∧ 19 ≤ (needL l).1 := by
  unfold needL at *
  split at h0
  · simp at h0
  · rename_i c1
    rw [if_neg c1] at h1 ⊢
    split at h0
    · rename_i c2
      rw [if_pos c2] at h1
      simp at h1
    · rename_i c2
      rw [if_neg c2] at h1 ⊢
      split at h0
      · rename_i c3
        rw [if_pos c3] at h1 ⊢
        split at h0
        · rename_i c4
          rw [if_pos c4] at h1 ⊢
          split at h1
          · simp at h1
          · rename_i c5
            rw [if_neg c5]
            split <;> simp <;> omega
        · simp at h0
      · rename_i c3
        rw [if_neg c3] at h1 ⊢
        split at h1
        · simp at h1
        · rename_i c5
          rw [if_neg c5]
          refine ⟨fun h => absurd h c3, ?_⟩
          split <;> simp
theorem need_err (l : List Bool) : (needL l).2 = 0 ∨ (needL l).2 = 12 := by
  unfold needL
  repeat' split
  all_goals simp
theorem parse_calls (s : ByteArray) (w : World) (hs : s.size ≤ 140737488351232) :
    Calls Tryz.prog 90 #[.string s] w fun e w' => e = .returned (parseV (parseL (bitsOf s)).1.1 (parseL (bitsOf s)).1.2.1 (parseL (bitsOf s)).1.2.2.1 ⟨(parseL (bitsOf s)).1.2.2.2.toArray⟩ (parseL (bitsOf s)).2.1 (parseL (bitsOf s)).2.2) ∧ Below w.heap.size w w' := by
  have hl := bitsOf_length s
  rcases need_err (bitsOf s) with h0 | h0
  · by_cases h1 : (needL (bitsOf s)).1 = 0 ∨ (bitsOf s).length < (needL (bitsOf s)).1
    · have e : parseL (bitsOf s) = ((false, 0, false, []), 0, 10) := by
        unfold parseL
        rw [if_neg (by simp [h0]), if_pos h1]
      rw [e]
      exact parse_short s w hs h0 (by rw [hl] at h1; exact h1)
    · obtain ⟨g1, g2⟩ := need_ge (bitsOf s) h0 (fun h => h1 (.inl h))
      cases h13 : (bitsOf s).getD 13 false
      · have e : parseL (bitsOf s) = ((false, numN (((bitsOf s).drop 1).take 11), (bitsOf s).getD 12 false, toB (((bitsOf s).drop 19).take ((needL (bitsOf s)).1 - 19))), (needL (bitsOf s)).1, 0) := by
          unfold parseL
          rw [if_neg (by simp [h0]), if_neg h1, if_neg (by rw [h13]; simp)]
        rw [e]
        exact parse_std s w hs _ rfl h0 g2 (by omega) h13 _ rfl _ rfl _ rfl
      · have e : parseL (bitsOf s) = ((true, numN (((bitsOf s).drop 1).take 11) * 262144 + numN (((bitsOf s).drop 14).take 18), (bitsOf s).getD 32 false, toB (((bitsOf s).drop 39).take ((needL (bitsOf s)).1 - 39))), (needL (bitsOf s)).1, 0) := by
          unfold parseL
          rw [if_neg (by simp [h0]), if_neg h1, if_pos h13]
        rw [e]
        exact parse_ext s w hs _ rfl h0 (g1 h13) (by omega) h13 _ rfl _ rfl _ rfl _ rfl
  · have e : parseL (bitsOf s) = ((false, 0, false, []), 0, 12) := by
      unfold parseL
      rw [if_pos (by simp [h0]), h0]
    rw [e]
    exact parse_err s w hs h0
end Go.Proofs.YtpkpnaedacefaaaGreat.FrameW
