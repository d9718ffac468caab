/- Frames as the document's layer 3 says them, continued: which frames may be, their bits, their texts, which one wins. -/
import Derived.Test.YtkdnldoebghclaaFrameA
import Derived.Lib.Bytealg
import Derived.Test.YtkdnldoebghclaaQFrx
import Derived.Test.YtkdnldoebghclaaBitsB
namespace Go.Proofs.Ytkdnldoebghclaa.Frame
set_option linter.unusedVariables false
set_option linter.unusedSimpArgs false
open Go Go.Proofs.Ytkdnldoebghclaa.Bits Go.Proofs.Ytkdnldoebghclaa.BitsW

/-- May a frame be? -/
def okF (e : Bool) (i : Int) (r : Bool) (d : ByteArray) : Bool :=
  (if e then decide (i < 536870912) else decide (i < 2048)) && decide (d.size ≤ 8) && !(r && d.size != 0)
/-- What frames are held against one another by. -/
def arbL (e : Bool) (n : Nat) (r : Bool) : List Bool :=
  if e then false :: (ofN (n / 262144) 11 ++ (true :: true :: (ofN n 18 ++ [r]))) else false :: (ofN n 11 ++ [r, false])
/-- A frame's bits up to its sum. -/
def bodyL (e : Bool) (n : Nat) (r : Bool) (d : List UInt8) : List Bool :=
  arbL e n r ++ ((if e then [false, false] else [false]) ++ (ofN d.length 4 ++ fromB d))
def arbF (e : Bool) (i : Int) (r : Bool) (d : ByteArray) : ByteArray := if okF e i r d then B (arbL e i.toNat r) else ⟨#[]⟩
def bodyF (e : Bool) (i : Int) (r : Bool) (d : ByteArray) : ByteArray := if okF e i r d then B (bodyL e i.toNat r d.data.toList) else ⟨#[]⟩
/-- A frame as text. -/
def textL (e : Bool) (n : Nat) (r : Bool) (d : List UInt8) : List UInt8 :=
  hexL n (if e then 8 else 3) ++ (35 :: (if r then [82] else d.flatMap (fun c => hexL c.toNat 2)))
def textF (e : Bool) (i : Int) (r : Bool) (d : ByteArray) : ByteArray := if okF e i r d then ⟨(textL e i.toNat r d.data.toList).toArray⟩ else ⟨#[]⟩
/-- Which of two rows wins: 0 before 1. -/
def cmpL : List Bool → List Bool → Int
  | a :: l, b :: m => if a = b then cmpL l m else if a then 1 else -1
  | _, _ => 0
theorem arbL_length (e : Bool) (n : Nat) (r : Bool) : (arbL e n r).length = if e then 33 else 14 := by
  unfold arbL
  cases e <;> simp [ofN_length]
theorem bodyL_length (e : Bool) (n : Nat) (r : Bool) (d : List UInt8) : (bodyL e n r d).length = (if e then 39 else 19) + 8 * d.length := by
  unfold bodyL
  cases e <;> simp [arbL_length, ofN_length, fromB_length] <;> omega
theorem cmpL_append : ∀ (a b s u : List Bool), a.length = b.length → (cmpL a b ≠ 0 → cmpL (a ++ s) (b ++ u) = cmpL a b) ∧ (cmpL a b = 0 → cmpL (a ++ s) (b ++ u) = cmpL s u)
  | [], [], s, u, _ => by simp [cmpL]
  | x :: l, y :: m, s, u, h => by
    have ih := cmpL_append l m s u (by simpa using h)
    simp only [List.cons_append, cmpL]
    by_cases hxy : x = y
    · simp only [if_pos hxy]; exact ih
    · simp only [if_neg hxy]
      cases x <;> simp
  | [], _ :: _, _, _, h => by simp at h
  | _ :: _, [], _, _, h => by simp at h
theorem cmpL_zero : ∀ (a b : List Bool), a.length = b.length → (cmpL a b = 0 ↔ a = b)
  | [], [], _ => by simp [cmpL]
  | x :: l, y :: m, h => by
    have ih := cmpL_zero l m (by simpa using h)
    simp only [cmpL, List.cons.injEq]
    by_cases hxy : x = y
    · rw [if_pos hxy, ih]; simp [hxy]
    · rw [if_neg hxy]
      cases x <;> simp [hxy] <;> (intro h; simp_all)
  | [], _ :: _, h => by simp at h
  | _ :: _, [], h => by simp at h
theorem cmpL_refl (a : List Bool) : cmpL a a = 0 := (cmpL_zero a a rfl).2 rfl
theorem cmpL_swap : ∀ (a b : List Bool), cmpL b a = - cmpL a b
  | [], [] => rfl
  | [], _ :: _ => rfl
  | _ :: _, [] => rfl
  | x :: l, y :: m => by
    have ih := cmpL_swap l m
    simp only [cmpL]
    by_cases hxy : x = y
    · rw [if_pos hxy, if_pos hxy.symm, ih]
    · rw [if_neg hxy, if_neg (fun h => hxy h.symm)]
      cases x <;> cases y <;> simp_all
theorem cmpL_vals : ∀ (a b : List Bool), cmpL a b = 0 ∨ cmpL a b = 1 ∨ cmpL a b = -1
  | [], [] => .inl rfl
  | [], _ :: _ => .inl rfl
  | _ :: _, [] => .inl rfl
  | x :: l, y :: m => by
    have ih := cmpL_vals l m
    simp only [cmpL]
    split
    · exact ih
    · split <;> simp
/-- Comparing two texts of bits: of one length, or not alike where both have bits. -/
theorem compare_bits : ∀ (a b : List Bool), (a.length = b.length ∨ cmpL a b ≠ 0) → Go.Lib.compareBytes (a.map sg) (b.map sg) = cmpL a b
  | [], [], _ => rfl
  | x :: l, y :: m, h => by
    rw [List.map_cons, List.map_cons, Go.Lib.compareBytes, cmpL]
    by_cases hxy : x = y
    · subst hxy
      have ih := compare_bits l m (by rcases h with h | h; exact .inl (by simpa using h); exact .inr (by simpa [cmpL] using h))
      rw [ih]
      have : ¬ (sg x < sg x) := by cases x <;> decide
      simp [this]
    · cases x <;> cases y <;> simp_all [sg]
  | [], _ :: _, h => by simp [cmpL] at h
  | _ :: _, [], h => by simp [cmpL] at h
/-- Two frames' rows are of one length, or not alike where both have bits. -/
theorem arb_apart (e : Bool) (n : Nat) (r : Bool) (e' : Bool) (n' : Nat) (r' : Bool) : (arbL e n r).length = (arbL e' n' r').length ∨ cmpL (arbL e n r) (arbL e' n' r') ≠ 0 := by
  by_cases he : e = e'
  · subst he; exact .inl (by rw [arbL_length, arbL_length])
  · right
    cases e <;> cases e' <;> first | exact absurd rfl he | skip
    · unfold arbL
      simp only [if_true, if_false, Bool.false_eq_true, cmpL]
      obtain ⟨h1, h2⟩ := cmpL_append (ofN n 11) (ofN (n' / 262144) 11) [r, false] (true :: true :: (ofN n' 18 ++ [r'])) (by rw [ofN_length, ofN_length])
      by_cases h : cmpL (ofN n 11) (ofN (n' / 262144) 11) = 0
      · rw [h2 h]; cases r <;> simp [cmpL]
      · rw [h1 h]; exact h
    · unfold arbL
      simp only [if_true, if_false, Bool.false_eq_true, cmpL]
      obtain ⟨h1, h2⟩ := cmpL_append (ofN (n / 262144) 11) (ofN n' 11) (true :: true :: (ofN n 18 ++ [r])) [r', false] (by rw [ofN_length, ofN_length])
      by_cases h : cmpL (ofN (n / 262144) 11) (ofN n' 11) = 0
      · rw [h2 h]; cases r' <;> simp [cmpL]
      · rw [h1 h]; exact h
end Go.Proofs.Ytkdnldoebghclaa.Frame

/- Package frame and package ostinatoref3: what their printed functions answer. -/
namespace Go.Proofs.Ytkdnldoebghclaa.FrameEq
set_option linter.unusedVariables false
set_option linter.unusedSimpArgs false
open Go Go.RowKit Go.Proofs.Ytkdnldoebghclaa.Lib Go.Proofs.Ytkdnldoebghclaa.Bits Go.Proofs.Ytkdnldoebghclaa.BitsW Go.Proofs.Ytkdnldoebghclaa.Frame Go.Proofs.Ytkdnldoebghclaa.QFr Go.Proofs.Ytkdnldoebghclaa.Plug Go.Proofs.Ytkdnldoebghclaa.Facts Go.Proofs.YtkdnldoebghclaaW.PrintWords Go.Proofs.YtkdnldoebghclaaW.PrintLast Go.Proofs.YtkdnldoebghclaaW.PrintMore

theorem bt_B (l : List Bool) (i : Nat) (h : i < l.length) : bt (B l) (i : Int) = ((sg l[i]).toNat : Int) := by
  have h2 : i < (B l).data.toList.length := by rw [B_toList]; simpa using h
  rw [Ref1.bt_nat (B l) i h2]
  simp only [B_toList, List.getElem_map]
theorem list_nil (d : ByteArray) : d.toList = [] ↔ d.size = 0 := by
  rw [Go.ByteArray.toList_eq]
  have := size_list d
  constructor
  · intro h; rw [h] at this; simpa using this.symm
  · intro h; exact List.eq_nil_of_length_eq_zero (by omega)
theorem is_eq (k : Nat) (hk : 0 < k) (e : Bool) (i : Int) (r : Bool) (d : ByteArray) : frame_Is.f k e i r d = some (okF e i r d) := by
  obtain ⟨k, rfl⟩ : ∃ m, k = m + 1 := ⟨k - 1, by omega⟩
  unfold frame_Is.f okF
  simp only [frame_Is.j0]
  by_cases h8 : d.size ≤ 8
  · have h1 : decide ((d.size : Int) > 8) = false := decide_eq_false (by omega)
    by_cases h0 : d.size = 0
    · have h2 := (list_nil d).2 h0
      cases r <;> cases e <;> simp [h1, h2, h8, h0]
    · have h2 : ¬ d.toList = [] := fun h => h0 ((list_nil d).1 h)
      cases r <;> cases e <;> simp [h1, h2, h8, h0]
  · have h1 : decide ((d.size : Int) > 8) = true := decide_eq_true (by omega)
    have h0 : ¬ d.size = 0 := by omega
    have h2 : ¬ d.toList = [] := fun h => h0 ((list_nil d).1 h)
    cases r <;> cases e <;> simp [h1, h2, h8, h0]
theorem sign_eq (b : Bool) : frame_sign.f b = some (B [b]) := by cases b <;> rfl
theorem ofw (x : Int) (w : Int) (W : Nat) (h0 : 0 ≤ x) (h1 : x < 18446744073709551616) (hw : wid w = W) : bits_Of.f (IntKind.u64.wrap x) w = some (B (ofN x.toNat W)) := by
  obtain ⟨n, rfl⟩ := Int.eq_ofNat_of_zero_le h0
  rw [wrap_u64 n (by omega), of_nat n w (by omega), hw, Int.toNat_natCast]
theorem rofw (x : Int) (w : Int) (W : Nat) (h0 : 0 ≤ x) (h1 : x < 18446744073709551616) (hw : wid w = W) : ostinatoref1_Of.f (IntKind.u64.wrap x) w = some (B (ofN x.toNat W)) := by
  obtain ⟨n, rfl⟩ := Int.eq_ofNat_of_zero_le h0
  unfold ostinatoref1_Of.f
  rw [wrap_u64 n (by omega), if_pos ⟨by omega, by omega⟩, hw]
theorem z0 : (⟨#[48]⟩ : ByteArray) = B [false] := rfl
theorem z1 : (⟨#[49]⟩ : ByteArray) = B [true] := rfl
theorem z00 : (⟨#[48, 48]⟩ : ByteArray) = B [false, false] := rfl
theorem z11 : (⟨#[49, 49]⟩ : ByteArray) = B [true, true] := rfl
theorem div_toNat (i : Int) (h : 0 ≤ i) : (i / 262144).toNat = i.toNat / 262144 := by omega
theorem okF_ext (i : Int) (r : Bool) (d : ByteArray) (h : okF true i r d = true) : i < 536870912 ∧ d.size ≤ 8 := by
  unfold okF at h
  simp at h
  exact ⟨h.1.1, h.1.2⟩
theorem okF_std (i : Int) (r : Bool) (d : ByteArray) (h : okF false i r d = true) : i < 2048 ∧ d.size ≤ 8 := by
  unfold okF at h
  simp at h
  exact ⟨h.1.1, h.1.2⟩
theorem okF_size (e : Bool) (i : Int) (r : Bool) (d : ByteArray) (h : okF e i r d = true) : d.size ≤ 8 := by
  cases e
  · exact (okF_std i r d h).2
  · exact (okF_ext i r d h).2
theorem arb_eq (k : Nat) (hk : 0 < k) (e : Bool) (i : Int) (r : Bool) (d : ByteArray) (hi : 0 ≤ i ∧ i < 4294967296) : frame_Arb.f k e i r d = some (arbF e i r d) := by
  unfold frame_Arb.f arbF
  rw [is_eq k hk, Option.bind_some]
  cases hok : okF e i r d
  · rw [if_neg (by simp), if_neg (by simp)]
  · rw [if_pos rfl, if_pos rfl]
    cases e
    · rw [if_neg (by simp), ofw i 11 11 hi.1 (by omega) rfl, Option.bind_some, sign_eq, Option.bind_some]
      simp only [z0, z1, B_append, B_size, List.length_append, List.length_cons, List.length_nil, ofN_length]
      simp [arbL]
    · rw [if_pos rfl, ofw (i / 262144) 11 11 (by omega) (by omega) rfl, Option.bind_some, ofw i 18 18 hi.1 (by omega) rfl, Option.bind_some, sign_eq, Option.bind_some, div_toNat i hi.1]
      simp only [z0, z1, B_append, B_size, List.length_append, List.length_cons, List.length_nil, ofN_length]
      simp [arbL]
theorem arbF_ok {e : Bool} {i : Int} {r : Bool} {d : ByteArray} (h : okF e i r d = true) : arbF e i r d = B (arbL e i.toNat r) := by unfold arbF; rw [if_pos h]
theorem from_ok (d : ByteArray) (h : d.size ≤ 8) : bits_FromBytes.f d = some (B (fromB d.data.toList)) := from_g d (by omega)
theorem body_eq (k : Nat) (hk : 0 < k) (e : Bool) (i : Int) (r : Bool) (d : ByteArray) (hi : 0 ≤ i ∧ i < 4294967296) : frame_Body.f k e i r d = some (bodyF e i r d) := by
  unfold frame_Body.f bodyF
  rw [is_eq k hk, Option.bind_some]
  cases hok : okF e i r d
  · rw [if_neg (by simp), if_neg (by simp)]
  · have hs := okF_size e i r d hok
    have hsl := size_list d
    have hfl : (fromB d.data.toList).length ≤ 64 := by rw [fromB_length]; omega
    have hal : (arbL e i.toNat r).length ≤ 33 := by rw [arbL_length]; split <;> omega
    rw [if_pos rfl, if_pos rfl]
    cases e
    · rw [if_neg (by simp), arb_eq k hk false i r d hi, Option.bind_some, arbF_ok hok, ofw (d.size : Int) 4 4 (by omega) (by omega) rfl, Option.bind_some, from_ok d hs, Option.bind_some]
      simp only [z0, B_append, B_size, List.length_append, List.length_cons, List.length_nil, ofN_length, Int.toNat_natCast]
      rw [if_pos (by omega), if_pos (by omega), if_pos (by omega)]
      simp [bodyL, hsl]
    · rw [if_pos rfl, arb_eq k hk true i r d hi, Option.bind_some, arbF_ok hok, ofw (d.size : Int) 4 4 (by omega) (by omega) rfl, Option.bind_some, from_ok d hs, Option.bind_some]
      simp only [z00, B_append, B_size, List.length_append, List.length_cons, List.length_nil, ofN_length, Int.toNat_natCast]
      rw [if_pos (by omega), if_pos (by omega), if_pos (by omega)]
      simp [bodyL, hsl]
theorem rbit_eq (b : Bool) : ostinatoref1_Bit.f b = some (B [b]) := rfl
theorem ris_eq (e : Bool) (i : Int) (r : Bool) (d : ByteArray) : ostinatoref3_Is.f e i r d = some (okF e i r d) := by
  unfold ostinatoref3_Is.f okF
  by_cases h8 : d.size ≤ 8
  · have h1 : ((d.size : Int) ≤ 8) = True := eq_true (by omega)
    by_cases h0 : d.size = 0
    · have h2 := (list_nil d).2 h0
      by_cases hA : i < 536870912 <;> by_cases hB : i < 2048 <;> cases r <;> cases e <;> simp [h1, h2, h8, h0, hA, hB]
    · have h2 : ¬ d.toList = [] := fun h => h0 ((list_nil d).1 h)
      have h3 : (d.toList == []) = false := beq_eq_false_iff_ne.2 h2
      have h4 : (d.size != 0) = true := bne_iff_ne.2 h0
      by_cases hA : i < 536870912 <;> by_cases hB : i < 2048 <;> cases r <;> cases e <;> simp only [h1, h3, h8, h4, hA, hB, if_true, if_false, Bool.false_eq_true, decide_true, decide_false, Bool.and_true, Bool.true_and, Bool.and_false, Bool.false_and, Bool.not_true, Bool.not_false]
  · have h1 : ((d.size : Int) ≤ 8) = False := eq_false (by omega)
    by_cases hA : i < 536870912 <;> by_cases hB : i < 2048 <;> cases r <;> cases e <;> simp [h1, h8, hA, hB]
theorem rarb_eq (e : Bool) (i : Int) (r : Bool) (d : ByteArray) (hi : 0 ≤ i ∧ i < 4294967296) : ostinatoref3_Arb.f e i r d = some (arbF e i r d) := by
  unfold ostinatoref3_Arb.f arbF
  rw [ris_eq, Option.bind_some]
  cases hok : okF e i r d
  · rw [if_neg (by simp), if_neg (by simp)]
  · rw [if_pos rfl, if_pos rfl, rbit_eq, Option.bind_some]
    cases e
    · rw [if_neg (by simp), rofw i 11 11 hi.1 (by omega) rfl, Option.bind_some]
      simp only [z0, z1, B_append, B_size, List.length_append, List.length_cons, List.length_nil, ofN_length]
      simp [arbL]
    · rw [if_pos rfl, rofw (i / 262144) 11 11 (by omega) (by omega) rfl, Option.bind_some, rofw i 18 18 hi.1 (by omega) rfl, Option.bind_some, div_toNat i hi.1]
      simp only [z0, z11, B_append, B_size, List.length_append, List.length_cons, List.length_nil, ofN_length]
      simp [arbL]
theorem rfrom_ok (d : ByteArray) (h : d.size ≤ 8) : ostinatoref1_FromBytes.f d = some (B (fromB d.data.toList)) := by unfold ostinatoref1_FromBytes.f; rw [if_pos (by omega)]
theorem rbody_eq (e : Bool) (i : Int) (r : Bool) (d : ByteArray) (hi : 0 ≤ i ∧ i < 4294967296) : ostinatoref3_Body.f e i r d = some (bodyF e i r d) := by
  unfold ostinatoref3_Body.f bodyF
  rw [ris_eq, Option.bind_some]
  cases hok : okF e i r d
  · rw [if_neg (by simp), if_neg (by simp)]
  · have hs := okF_size e i r d hok
    have hsl := size_list d
    have hfl : (fromB d.data.toList).length ≤ 64 := by rw [fromB_length]; omega
    have hal : (arbL e i.toNat r).length ≤ 33 := by rw [arbL_length]; split <;> omega
    rw [if_pos rfl, if_pos rfl, rarb_eq e i r d hi, Option.bind_some, arbF_ok hok]
    cases e
    · rw [rofw (d.size : Int) 4 4 (by omega) (by omega) rfl]
      simp only [Option.bind_some, rfrom_ok d hs]
      simp only [z0, B_append, B_size, List.length_append, List.length_cons, List.length_nil, ofN_length, Int.toNat_natCast]
      rw [if_pos (by omega), if_neg (by simp), if_pos (by omega), if_pos (by omega)]
      simp [bodyL, hsl]
    · rw [rofw (d.size : Int) 4 4 (by omega) (by omega) rfl]
      simp only [Option.bind_some, rfrom_ok d hs]
      simp only [z0, B_append, B_size, List.length_append, List.length_cons, List.length_nil, ofN_length, Int.toNat_natCast]
      rw [if_pos (by omega), if_pos trivial, if_pos (by omega), if_pos (by omega), if_pos (by omega)]
      simp [bodyL, hsl]
theorem frame_same (e : Bool) (i : Int) (r : Bool) (d : ByteArray) (e' : Bool) (i' : Int) (r' : Bool) (d' : ByteArray) :
    (e == e' && (i == i' && (r == r' && (d.toList == d'.toList)))) = true ↔ e = e' ∧ i = i' ∧ r = r' ∧ d = d' := by
  simp only [Bool.and_eq_true, beq_iff_eq, text_eq]
/-- Which of two frames wins. -/
def cmpF (e : Bool) (i : Int) (r : Bool) (d : ByteArray) (e' : Bool) (i' : Int) (r' : Bool) (d' : ByteArray) : Int :=
  if e = e' ∧ i = i' ∧ r = r' ∧ d = d' then 0 else Go.Lib.compareBytes (arbF e i r d).data.toList (arbF e' i' r' d').data.toList
theorem cmpF_ok {e : Bool} {i : Int} {r : Bool} {d : ByteArray} {e' : Bool} {i' : Int} {r' : Bool} {d' : ByteArray} (h : okF e i r d = true) (h' : okF e' i' r' d' = true) :
    cmpF e i r d e' i' r' d' = cmpL (arbL e i.toNat r) (arbL e' i'.toNat r') := by
  unfold cmpF
  by_cases hs : e = e' ∧ i = i' ∧ r = r' ∧ d = d'
  · obtain ⟨rfl, rfl, rfl, rfl⟩ := hs
    rw [if_pos ⟨rfl, rfl, rfl, rfl⟩, cmpL_refl]
  · rw [if_neg hs, arbF_ok h, arbF_ok h', B_toList, B_toList]
    exact compare_bits _ _ (arb_apart ..)
end Go.Proofs.Ytkdnldoebghclaa.FrameEq

/- The order of frames, in plain Lean. -/
namespace Go.Proofs.Ytkdnldoebghclaa.Frame
set_option linter.unusedVariables false
set_option linter.unusedSimpArgs false
open Go Go.Proofs.Ytkdnldoebghclaa.Bits Go.Proofs.Ytkdnldoebghclaa.BitsW

theorem cmp_same (a s u : List Bool) : cmpL (a ++ s) (a ++ u) = cmpL s u := (cmpL_append a a s u rfl).2 (cmpL_refl a)
theorem cmp_ofN (a b : Nat) : ∀ w : Nat, cmpL (ofN a w) (ofN b w) = if a % 2 ^ w < b % 2 ^ w then -1 else if b % 2 ^ w < a % 2 ^ w then 1 else 0
  | 0 => by simp [ofN, cmpL, Nat.mod_one]
  | w + 1 => by
    have ih := cmp_ofN a b w
    have ha : a % 2 ^ (w + 1) = (a.testBit w).toNat * 2 ^ w + a % 2 ^ w := by
      rw [Nat.pow_succ, Nat.mod_mul, Nat.testBit_eq_decide_div_mod_eq, Nat.add_comm]
      have : a / 2 ^ w % 2 = (decide (a / 2 ^ w % 2 = 1)).toNat := by
        rcases Nat.mod_two_eq_zero_or_one (a / 2 ^ w) with h | h <;> simp [h]
      rw [← this, Nat.mul_comm]
    have hb : b % 2 ^ (w + 1) = (b.testBit w).toNat * 2 ^ w + b % 2 ^ w := by
      rw [Nat.pow_succ, Nat.mod_mul, Nat.testBit_eq_decide_div_mod_eq, Nat.add_comm]
      have : b / 2 ^ w % 2 = (decide (b / 2 ^ w % 2 = 1)).toNat := by
        rcases Nat.mod_two_eq_zero_or_one (b / 2 ^ w) with h | h <;> simp [h]
      rw [← this, Nat.mul_comm]
    have la : a % 2 ^ w < 2 ^ w := Nat.mod_lt _ (Nat.two_pow_pos w)
    have lb : b % 2 ^ w < 2 ^ w := Nat.mod_lt _ (Nat.two_pow_pos w)
    rw [ha, hb]
    simp only [ofN, cmpL]
    rw [ih]
    generalize a % 2 ^ w = x at *
    generalize b % 2 ^ w = y at *
    generalize 2 ^ w = p at *
    clear ih ha hb
    cases a.testBit w <;> cases b.testBit w <;> simp only [Bool.toNat_false, Bool.toNat_true, Nat.zero_mul, Nat.one_mul, Nat.zero_add, if_true, if_false, Bool.false_eq_true, Bool.true_eq_false]
    · rw [if_pos (by omega)]
    · rw [if_neg (by omega), if_pos (by omega)]
    · simp only [Nat.add_lt_add_iff_left]
theorem cmp_nat (a b w : Nat) (ha : a < 2 ^ w) (hb : b < 2 ^ w) : cmpL (ofN a w) (ofN b w) = if a < b then -1 else if b < a then 1 else 0 := by
  rw [cmp_ofN, Nat.mod_eq_of_lt ha, Nat.mod_eq_of_lt hb]
/-- Two frames without Ext. -/
theorem cmp_std (a b : Nat) (r q : Bool) (ha : a < 2048) (hb : b < 2048) : cmpL (arbL false a r) (arbL false b q) = if a < b then -1 else if b < a then 1 else cmpL [r] [q] := by
  have hn := cmp_nat a b 11 ha hb
  obtain ⟨h1, h2⟩ := cmpL_append (ofN a 11) (ofN b 11) [r, false] [q, false] (by rw [ofN_length, ofN_length])
  simp only [arbL, if_false, Bool.false_eq_true, cmpL, if_true]
  by_cases hlt : a < b
  · rw [if_pos hlt] at hn; rw [h1 (by rw [hn]; decide), hn, if_pos hlt]
  · rw [if_neg hlt] at hn
    by_cases hgt : b < a
    · rw [if_pos hgt] at hn; rw [h1 (by rw [hn]; decide), hn, if_neg hlt, if_pos hgt]
    · rw [if_neg hgt] at hn; rw [h2 hn, if_neg hlt, if_neg hgt]; cases r <;> cases q <;> simp [cmpL]
/-- A frame without Ext against one with Ext of the same first bits. -/
theorem cmp_mixed (a n : Nat) (r q : Bool) (h : n / 262144 = a) : cmpL (arbL false a r) (arbL true n q) = -1 := by
  simp only [arbL, if_false, Bool.false_eq_true, cmpL, if_true]
  rw [h, cmp_same]
  cases r <;> simp [cmpL]
theorem cmp_mixed' (a n : Nat) (r q : Bool) (h : n / 262144 = a) : cmpL (arbL true n q) (arbL false a r) = 1 := by
  rw [cmpL_swap, cmp_mixed a n r q h]; rfl
end Go.Proofs.Ytkdnldoebghclaa.Frame

/- The walks of package ostinatoref3 and of frame's texts. -/
namespace Go.Proofs.Ytkdnldoebghclaa.FrameW
set_option linter.unusedVariables false
set_option linter.unusedSimpArgs false
open Go Go.RowKit Go.Proofs.Ytkdnldoebghclaa.Lib Go.Proofs.Ytkdnldoebghclaa.Bits Go.Proofs.Ytkdnldoebghclaa.BitsW Go.Proofs.Ytkdnldoebghclaa.Frame Go.Proofs.YtkdnldoebghclaaW.PrintMore
attribute [local go_sem] max2_int min2_int max_two min_two forms_ix0 forms_ix1

def signsT : ByteArray := ⟨#[48, 49, 50, 51, 52, 53, 54, 55, 56, 57, 65, 66, 67, 68, 69, 70]⟩
theorem signs_part (d : Nat) (h : d < 16) : signsT.extract d (d + 1) = ⟨#[hexd d]⟩ := by
  have : ∀ d : Fin 16, signsT.extract d.1 (d.1 + 1) = ⟨#[hexd d.1]⟩ := by decide +kernel
  exact this ⟨d, h⟩
theorem and_15w (n k : Nat) (hn : n < 4294967296) : Go.bits BinOp.and IntKind.u64 ((n : Int) / 2 ^ (4 * k)) 15 = ((n / 16 ^ k % 16 : Nat) : Int) := by
  have e : ((n : Int) / 2 ^ (4 * k)) = ((n / 16 ^ k : Nat) : Int) := by
    have e2 : (2 : Int) ^ (4 * k) = ((16 ^ k : Nat) : Int) := by
      rw [Int.pow_mul]; simp
    rw [e2]; simp
  have hlt : n / 16 ^ k < 4294967296 := Nat.lt_of_le_of_lt (Nat.div_le_self _ _) hn
  rw [e]
  generalize n / 16 ^ k = m at *
  have := (u64_ops m 15 (by omega) (by omega)).1
  refine this.trans ?_
  rw [show (15 : Nat) = 2 ^ 4 - 1 from rfl, Nat.and_two_pow_sub_one_eq_mod]
theorem cat_bytes (a b : List UInt8) : (⟨a.toArray⟩ : ByteArray) ++ ⟨b.toArray⟩ = ⟨(a ++ b).toArray⟩ := by
  apply ByteArray.ext
  rw [ByteArray.data_append]
  simp
theorem cat_cons (x : UInt8) (b : List UInt8) : (⟨#[x]⟩ : ByteArray) ++ ⟨b.toArray⟩ = ⟨(x :: b).toArray⟩ := cat_bytes [x] b

/-- The part of a frame's text that k bytes make. -/
def textK (a : List UInt8) (d : List UInt8) (k : Nat) : List UInt8 := a ++ (d.take k).flatMap (fun c => hexL c.toNat 2)
theorem textK_length (a d : List UInt8) (k : Nat) : (textK a d k).length ≤ a.length + 2 * d.length := by
  unfold textK
  rw [List.length_append, List.length_flatMap]
  have : ((d.take k).map (fun c => (hexL c.toNat 2).length)).sum = 2 * (d.take k).length := by
    generalize d.take k = l
    induction l with
    | nil => rfl
    | cons c l ih => rw [List.map_cons, List.sum_cons, ih, hexL_length, List.length_cons]; omega
  rw [this]
  have := List.length_take_le k d
  have := List.length_take_le' k d
  omega
theorem textK_succ (a d : List UInt8) (k : Nat) (h : k < d.length) : textK a d k ++ hexL (d[k]).toNat 2 = textK a d (k + 1) := by
  unfold textK
  rw [List.take_succ_eq_append_getElem h, List.flatMap_append]
  simp
theorem byte_nat (s : ByteArray) (k : Nat) (h : k < s.size) : (s[k]'h).toNat = (s.data.toList[k]'(by rw [size_list]; exact h)).toNat := by
  rw [Array.getElem_toList]; rfl
theorem byte_lt (c : UInt8) : c.toNat < 256 := c.toNat_lt

theorem frame_is (e : Bool) (i : Int) (r : Bool) (d : ByteArray) (w : World) :
    Calls Try.prog 29 #[.agg #[.bool e, .int .u32 i, .bool r, .string d]] w fun x w' => x = .returned (.bool (okF e i r d)) ∧ Below w.heap.size w w' :=
  QFr.frame_Is.calls 1 e i r d _ w (FrameEq.is_eq 1 (by decide) e i r d)
theorem ref_is (e : Bool) (i : Int) (r : Bool) (d : ByteArray) (w : World) :
    Calls Try.prog 22 #[.agg #[.bool e, .int .u32 i, .bool r, .string d]] w fun x w' => x = .returned (.bool (okF e i r d)) ∧ Below w.heap.size w w' :=
  QFr.ostinatoref3_Is.calls e i r d _ w (FrameEq.ris_eq e i r d)

end Go.Proofs.Ytkdnldoebghclaa.FrameW

/- The walks of package ostinatoref3, continued: a frame read. -/
namespace Go.Proofs.Ytkdnldoebghclaa.FrameW
set_option linter.unusedVariables false
set_option linter.unusedSimpArgs false
open Go Go.RowKit Go.Proofs.Ytkdnldoebghclaa.Lib Go.Proofs.Ytkdnldoebghclaa.Bits Go.Proofs.Ytkdnldoebghclaa.BitsW Go.Proofs.Ytkdnldoebghclaa.Frame Go.Proofs.YtkdnldoebghclaaW.PrintMore Go.Proofs.YtkdnldoebghclaaW.PrintWords
attribute [local go_sem] max2_int min2_int max_two min_two forms_ix0 forms_ix1

theorem rnum_calls (s : ByteArray) (w : World) (hs : s.size ≤ 140737488351232) :
    Calls Try.prog 69 #[.string s] w fun e w' => e = .returned (.int .u64 (num64 (bitsOf s))) ∧ Below w.heap.size w w' :=
  (Plug.ostinatoref1_Num.calls s _ w (by unfold Plug.ostinatoref1_Num.f; rw [if_pos hs])).mono fun _ _ ⟨h1, h2⟩ => ⟨h1, h2.below⟩
theorem rbytes_calls (s : ByteArray) (w : World) (hs : s.size ≤ 140737488351232) :
    Calls Try.prog 70 #[.string s] w fun e w' => e = .returned (.string ⟨(toB (bitsOf s)).toArray⟩) ∧ Below w.heap.size w w' :=
  Plug.ostinatoref1_Bytes.calls s _ w (by unfold Plug.ostinatoref1_Bytes.f; rw [if_pos hs])

set_option maxRecDepth 100000 in
set_option maxHeartbeats 3200000 in
theorem rparse_none (s : ByteArray) (w : World) (hs : s.size ≤ 140737488351232) (h : s.size < 1) :
    Calls Try.prog 60 #[.string s] w fun e w' => e = .returned (parseV false 0 false ⟨#[]⟩ 0 10) ∧ Below w.heap.size w w' := by
  have c1a : ((s.size : Int) < 1) = True := eq_true (by omega)
  have c1b : decide ((s.size : Int) < 1) = true := decide_eq_true (by omega)
  have hb0 := Blk.new w [.bool false, .int .u32 0, .bool false, .string ⟨#[]⟩] 24
  have HBL := (Below.refl w.heap.size w).alloc (Nat.le_refl _) (.cells #[.bool false, .int .u32 0, .bool false, .string ⟨#[]⟩] 24)
  go_enter Try.func60, Try.ntmps60
  go_wp2_with fail
  have hz := frame_res hb0
  obtain ⟨z0, z1, z2, z3⟩ := hz
  exact bodyPost_ret (v := parseV false 0 false ⟨#[]⟩ 0 10) (by simp [results, Try.results60, go_sem, parseV, z0, z1, z2, z3]) rfl ⟨rfl, HBL⟩
set_option maxRecDepth 100000 in
set_option maxHeartbeats 3200000 in
theorem rparse_one (s : ByteArray) (w : World) (hs : s.size ≤ 140737488351232) (h : 0 < s.size) (h0 : (bitsOf s).getD 0 false = true) :
    Calls Try.prog 60 #[.string s] w fun e w' => e = .returned (parseV false 0 false ⟨#[]⟩ 0 12) ∧ Below w.heap.size w w' := by
  have z0' : 0 < s.size := by omega
  have hb0' := bit_at s 0 z0'
  rw [h0] at hb0'
  have c1a : ((s.size : Int) < 1) = False := eq_false (by omega)
  have c1b : decide ((s.size : Int) < 1) = false := decide_eq_false (by omega)
  have zi0 : (0 : Int) < s.size := by omega
  clear h0
  have hb0 := Blk.new w [.bool false, .int .u32 0, .bool false, .string ⟨#[]⟩] 24
  have HBL := (Below.refl w.heap.size w).alloc (Nat.le_refl _) (.cells #[.bool false, .int .u32 0, .bool false, .string ⟨#[]⟩] 24)
  go_enter Try.func60, Try.ntmps60
  go_wp2_with fail
  have hz := frame_res hb0
  obtain ⟨z0, z1, z2, z3⟩ := hz
  exact bodyPost_ret (v := parseV false 0 false ⟨#[]⟩ 0 12) (by simp [results, Try.results60, go_sem, parseV, z0, z1, z2, z3]) rfl ⟨rfl, HBL⟩
set_option maxRecDepth 100000 in
set_option maxHeartbeats 3200000 in
theorem rparse_short (s : ByteArray) (w : World) (hs : s.size ≤ 140737488351232) (h : 0 < s.size) (h14 : s.size < 14) (h0 : (bitsOf s).getD 0 false = false) :
    Calls Try.prog 60 #[.string s] w fun e w' => e = .returned (parseV false 0 false ⟨#[]⟩ 0 10) ∧ Below w.heap.size w w' := by
  have z0' : 0 < s.size := by omega
  have hb0' := bit_at s 0 z0'
  rw [h0] at hb0'
  have c1a : ((s.size : Int) < 1) = False := eq_false (by omega)
  have c1b : decide ((s.size : Int) < 1) = false := decide_eq_false (by omega)
  have zi0 : (0 : Int) < s.size := by omega
  have c2a : ((s.size : Int) < 14) = True := eq_true (by omega)
  have c2b : decide ((s.size : Int) < 14) = true := decide_eq_true (by omega)
  clear h0
  have hb0 := Blk.new w [.bool false, .int .u32 0, .bool false, .string ⟨#[]⟩] 24
  have HBL := (Below.refl w.heap.size w).alloc (Nat.le_refl _) (.cells #[.bool false, .int .u32 0, .bool false, .string ⟨#[]⟩] 24)
  go_enter Try.func60, Try.ntmps60
  go_wp2_with fail
  have hz := frame_res hb0
  obtain ⟨z0, z1, z2, z3⟩ := hz
  exact bodyPost_ret (v := parseV false 0 false ⟨#[]⟩ 0 10) (by simp [results, Try.results60, go_sem, parseV, z0, z1, z2, z3]) rfl ⟨rfl, HBL⟩
set_option maxRecDepth 100000 in
set_option maxHeartbeats 3200000 in
theorem rparse_s_a (s : ByteArray) (w : World) (hs : s.size ≤ 140737488351232) (h14 : 14 ≤ s.size) (h0 : (bitsOf s).getD 0 false = false) (h13 : (bitsOf s).getD 13 false = false) (hat : s.size < 19) (R : Bool) (hR : (bitsOf s).getD 12 false = R) :
    Calls Try.prog 60 #[.string s] w fun e w' => e = .returned (parseV false 0 false ⟨#[]⟩ 0 10) ∧ Below w.heap.size w w' := by
  obtain ⟨A, hA⟩ : ∃ A, numN (((bitsOf s).drop 1).take 11) = A := ⟨_, rfl⟩
  have z0' : 0 < s.size := by omega
  have hb0' := bit_at s 0 z0'
  rw [h0] at hb0'
  have c1a : ((s.size : Int) < 1) = False := eq_false (by omega)
  have c1b : decide ((s.size : Int) < 1) = false := decide_eq_false (by omega)
  have zi0 : (0 : Int) < s.size := by omega
  have c2a : ((s.size : Int) < 14) = False := eq_false (by omega)
  have c2b : decide ((s.size : Int) < 14) = false := decide_eq_false (by omega)
  have z13 : 13 < s.size := by omega
  have zi13 : (13 : Int) < s.size := by omega
  have hb13 := bit_at s 13 z13
  rw [h13] at hb13
  have z12 : 12 < s.size := by omega
  have zi12 : (12 : Int) < s.size := by omega
  have hb12 := bit_at s 12 z12
  rw [hR] at hb12
  have hAl : A < 2048 := by rw [← hA]; exact num_lt _ 1 11
  have HNUM := hid (show num64 (bitsOf (s.extract 1 12)) = A by rw [← hA]; exact num_part s 1 11 (by decide))
  have q1 : ((12 : Int) ≤ (s.size : Int)) = True := eq_true (by omega)
  have q2 : (12 ≤ s.size) = True := eq_true (by omega)
  have e6 : IntKind.u32.wrap (A : Int) = A := by rw [IntKind.wrap_u32]; omega
  have c4a : ((s.size : Int) < 19) = True := eq_true (by omega)
  have c4b : decide ((s.size : Int) < 19) = true := decide_eq_true (by omega)
  clear h0 h13 hA hAl h14 hR hat
  have hb0 := Blk.new w [.bool false, .int .u32 0, .bool false, .string ⟨#[]⟩] 24
  have HBL := (Below.refl w.heap.size w).alloc (Nat.le_refl _) (.cells #[.bool false, .int .u32 0, .bool false, .string ⟨#[]⟩] 24)
  go_enter Try.func60, Try.ntmps60
  go_wp2_with fail
  refine (rnum_calls _ _ (by rw [ByteArray.size_extract]; omega)).mono ?_
  rintro e w1 ⟨rfl, hb1⟩
  rw [HNUM.out]
  have hx := (hb0.below hb1)
  have HB1 := HBL.trans (hb1.mono HBL.size)
  have hr0 : w.heap.size < w1.heap.size := hx.lt
  clear hb0 hb1 HBL
  generalize hw0 : w.heap.size = r0 at *
  have HW0 := hid hw0
  clear hw0
  obtain ⟨_, _, _, _⟩ := frame_res hx
  obtain ⟨_, _, _, _⟩ := frame_free hx
  have hz := frame_res ((set4_blk hx false 0 false ⟨#[]⟩).alloc (.cells #[.bool false, .int .u32 A, .bool R, .string ⟨#[]⟩] 24))
  have hbz := (set4_below HB1 (Nat.le_refl _) false 0 false ⟨#[]⟩).alloc (by simp [set4, World.setCell]; omega) (.cells #[.bool false, .int .u32 A, .bool R, .string ⟨#[]⟩] 24)
  unfold set4 at hz hbz
  have HZ := hid hz
  have HBZ := hid hbz
  clear hz hbz hx HB1
  go_wp2_with fail
  obtain ⟨z0, z1, z2, z3⟩ := HZ.out
  exact bodyPost_ret (v := parseV false 0 false ⟨#[]⟩ 0 10) (by simp [results, Try.results60, go_sem, parseV, z0, z1, z2, z3]) rfl ⟨rfl, by rw [HW0.out]; exact HBZ.out⟩
set_option maxRecDepth 100000 in
set_option maxHeartbeats 3200000 in
theorem rparse_s_rtr (s : ByteArray) (w : World) (hs : s.size ≤ 140737488351232) (h14 : 14 ≤ s.size) (h0 : (bitsOf s).getD 0 false = false) (h13 : (bitsOf s).getD 13 false = false) (hat : 19 ≤ s.size) (hR : (bitsOf s).getD 12 false = true) (A : Nat) (hA : numN (((bitsOf s).drop 1).take 11) = A) :
    Calls Try.prog 60 #[.string s] w fun e w' => e = .returned (parseV false A true ⟨#[]⟩ 19 0) ∧ Below w.heap.size w w' := by
  have z0' : 0 < s.size := by omega
  have hb0' := bit_at s 0 z0'
  rw [h0] at hb0'
  have c1a : ((s.size : Int) < 1) = False := eq_false (by omega)
  have c1b : decide ((s.size : Int) < 1) = false := decide_eq_false (by omega)
  have zi0 : (0 : Int) < s.size := by omega
  have c2a : ((s.size : Int) < 14) = False := eq_false (by omega)
  have c2b : decide ((s.size : Int) < 14) = false := decide_eq_false (by omega)
  have z13 : 13 < s.size := by omega
  have zi13 : (13 : Int) < s.size := by omega
  have hb13 := bit_at s 13 z13
  rw [h13] at hb13
  have z12 : 12 < s.size := by omega
  have zi12 : (12 : Int) < s.size := by omega
  have hb12 := bit_at s 12 z12
  rw [hR] at hb12
  have hAl : A < 2048 := by rw [← hA]; exact num_lt _ 1 11
  have HNUM := hid (show num64 (bitsOf (s.extract 1 12)) = A by rw [← hA]; exact num_part s 1 11 (by decide))
  have q1 : ((12 : Int) ≤ (s.size : Int)) = True := eq_true (by omega)
  have q2 : (12 ≤ s.size) = True := eq_true (by omega)
  have e6 : IntKind.u32.wrap (A : Int) = A := by rw [IntKind.wrap_u32]; omega
  have c4a : ((s.size : Int) < 19) = False := eq_false (by omega)
  have c4b : decide ((s.size : Int) < 19) = false := decide_eq_false (by omega)
  obtain ⟨m, hm⟩ : ∃ m, numN (((bitsOf s).drop 15).take 4) = m := ⟨_, rfl⟩
  have hml : m < 16 := by rw [← hm]; exact num_lt _ 15 4
  have HNU4 := hid (show num64 (bitsOf (s.extract 15 19)) = m by rw [← hm]; exact num_part s 15 4 (by decide))
  have r1 : ((19 : Int) ≤ (s.size : Int)) = True := eq_true (by omega)
  have r2 : (19 ≤ s.size) = True := eq_true (by omega)
  have b0 : 0 ≤ (m : Int) := Int.natCast_nonneg _
  have b1 : (m : Int) ≤ 15 := by omega
  obtain ⟨M, hM'⟩ : ∃ M, min m 8 = M := ⟨_, rfl⟩
  have hite : (if 8 < (m : Int) then (8 : Int) else (m : Int)) = (M : Int) := by split <;> omega
  have hM8 : M ≤ 8 := by omega
  have b2 : IntKind.i64.wrap (M : Int) = M := by rw [IntKind.wrap_i64]; omega
  have b3 : IntKind.i64.wrap (8 * (M : Int)) = 8 * (M : Int) := by rw [IntKind.wrap_i64]; omega
  have b4 : IntKind.i64.wrap (19 + 8 * (M : Int)) = 19 + 8 * (M : Int) := by rw [IntKind.wrap_i64]; omega
  have HBY := hid (show toB (bitsOf ByteArray.empty) = [] from rfl)
  clear h0 h13 hA hAl h14 hR hat hm hml hM' hM8
  have HITE := hid hite
  have hb0 := Blk.new w [.bool false, .int .u32 0, .bool false, .string ⟨#[]⟩] 24
  have HBL := (Below.refl w.heap.size w).alloc (Nat.le_refl _) (.cells #[.bool false, .int .u32 0, .bool false, .string ⟨#[]⟩] 24)
  go_enter Try.func60, Try.ntmps60
  go_wp2_with fail
  refine (rnum_calls _ _ (by rw [ByteArray.size_extract]; omega)).mono ?_
  rintro e w1 ⟨rfl, hb1⟩
  rw [HNUM.out]
  have hx := (hb0.below hb1)
  have HB1 := HBL.trans (hb1.mono HBL.size)
  have hr0 : w.heap.size < w1.heap.size := hx.lt
  clear hb0 hb1 HBL
  generalize hw0 : w.heap.size = r0 at *
  have HW0 := hid hw0
  clear hw0
  have hX := Blk.new w1 [.bool false, .int .u32 A, .bool true, .string ⟨#[]⟩] 24
  have hR0 := hx.alloc (.cells #[.bool false, .int .u32 A, .bool true, .string ⟨#[]⟩] 24)
  have HB2 := HB1.alloc (Nat.le_of_lt hr0) (.cells #[.bool false, .int .u32 A, .bool true, .string ⟨#[]⟩] 24)
  clear hx HB1
  go_wp2_with fail
  generalize hxx : w1.heap.size = x at *
  have hxr : r0 ≠ x := by omega
  have hrx : r0 ≤ x := by omega
  clear hr0 hxx
  refine (rnum_calls _ _ (by rw [ByteArray.size_extract]; omega)).mono ?_
  rintro e w3 ⟨rfl, hb3⟩
  rw [HNU4.out]
  have HB3 := HB2.trans (hb3.mono (Nat.le_of_lt hR0.lt))
  have hX3 := hX.below hb3
  have hR3 := hR0.below hb3
  clear hb3 hX hR0 HB2
  obtain ⟨x0, x1, x2, x3⟩ := frame_res hX3
  obtain ⟨f0, f1, f2, f3⟩ := frame_free hX3
  have HX := hid hX3
  have HR0 := hid hR3
  have HBB := hid HB3
  clear hX3 hR3 HB3
  go_wp2_with fail
  refine (rbytes_calls _ _ (by first | (rw [ByteArray.size_extract]; omega) | decide)).mono ?_
  rintro e w6 ⟨rfl, hb6⟩
  rw [HBY.out]
  have hX6 := HX.out.below hb6
  have hR6 := HR0.out.below hb6
  have hBW6 := HBB.out.trans (hb6.mono (Nat.le_of_lt HR0.out.lt))
  have hX7 := hX6.set 3 (.string ⟨([] : List UInt8).toArray⟩)
  simp only [List.set_cons_zero, List.set_cons_succ] at hX7
  have hR7 := hR6.far (p := ⟨x, 3, none⟩) hxr (.string ⟨([] : List UInt8).toArray⟩)
  have hBW7 := hBW6.setCell (p := ⟨x, 3, none⟩) (by exact hrx) (.string ⟨([] : List UInt8).toArray⟩)
  clear x0 x1 x2 x3 f0 f1 f2 f3
  obtain ⟨u0, u1, u2, u3⟩ := frame_res hX6
  obtain ⟨v0, v1, v2, v3⟩ := frame_free hX6
  obtain ⟨s0, s1, s2, s3⟩ := frame_res hX7
  obtain ⟨t0, t1, t2, t3⟩ := frame_free hR7
  obtain ⟨r1', r2', r3', r4'⟩ := frame_res hR7
  have hz := frame_res (set4_blk hR7 false A true ⟨#[]⟩)
  have hbz := set4_below hBW7 (Nat.le_refl _) false A true ⟨#[]⟩
  unfold set4 at hz hbz
  have HZ := hid hz
  have HBZ := hid hbz
  clear hz hbz hb6 hX6 hR6 hBW6 hX7 hR7 hBW7 HX HR0 HBB
  go_wp2_with fail
  obtain ⟨z0, z1, z2, z3⟩ := HZ.out
  exact bodyPost_ret (v := parseV false A true ⟨#[]⟩ 19 0) (by simp [results, Try.results60, go_sem, parseV, z0, z1, z2, z3]) rfl ⟨rfl, by rw [HW0.out]; exact HBZ.out⟩
set_option maxRecDepth 100000 in
set_option maxHeartbeats 3200000 in
theorem rparse_s_low (s : ByteArray) (w : World) (hs : s.size ≤ 140737488351232) (h14 : 14 ≤ s.size) (h0 : (bitsOf s).getD 0 false = false) (h13 : (bitsOf s).getD 13 false = false) (hat : 19 ≤ s.size) (hR : (bitsOf s).getD 12 false = false) (M : Nat) (hM : min (numN (((bitsOf s).drop 15).take 4)) 8 = M) (hlow : s.size < 19 + 8 * M) :
    Calls Try.prog 60 #[.string s] w fun e w' => e = .returned (parseV false 0 false ⟨#[]⟩ 0 10) ∧ Below w.heap.size w w' := by
  obtain ⟨A, hA⟩ : ∃ A, numN (((bitsOf s).drop 1).take 11) = A := ⟨_, rfl⟩
  have z0' : 0 < s.size := by omega
  have hb0' := bit_at s 0 z0'
  rw [h0] at hb0'
  have c1a : ((s.size : Int) < 1) = False := eq_false (by omega)
  have c1b : decide ((s.size : Int) < 1) = false := decide_eq_false (by omega)
  have zi0 : (0 : Int) < s.size := by omega
  have c2a : ((s.size : Int) < 14) = False := eq_false (by omega)
  have c2b : decide ((s.size : Int) < 14) = false := decide_eq_false (by omega)
  have z13 : 13 < s.size := by omega
  have zi13 : (13 : Int) < s.size := by omega
  have hb13 := bit_at s 13 z13
  rw [h13] at hb13
  have z12 : 12 < s.size := by omega
  have zi12 : (12 : Int) < s.size := by omega
  have hb12 := bit_at s 12 z12
  rw [hR] at hb12
  have hAl : A < 2048 := by rw [← hA]; exact num_lt _ 1 11
  have HNUM := hid (show num64 (bitsOf (s.extract 1 12)) = A by rw [← hA]; exact num_part s 1 11 (by decide))
  have q1 : ((12 : Int) ≤ (s.size : Int)) = True := eq_true (by omega)
  have q2 : (12 ≤ s.size) = True := eq_true (by omega)
  have e6 : IntKind.u32.wrap (A : Int) = A := by rw [IntKind.wrap_u32]; omega
  have c4a : ((s.size : Int) < 19) = False := eq_false (by omega)
  have c4b : decide ((s.size : Int) < 19) = false := decide_eq_false (by omega)
  obtain ⟨m, hm⟩ : ∃ m, numN (((bitsOf s).drop 15).take 4) = m := ⟨_, rfl⟩
  have hml : m < 16 := by rw [← hm]; exact num_lt _ 15 4
  have HNU4 := hid (show num64 (bitsOf (s.extract 15 19)) = m by rw [← hm]; exact num_part s 15 4 (by decide))
  have r1 : ((19 : Int) ≤ (s.size : Int)) = True := eq_true (by omega)
  have r2 : (19 ≤ s.size) = True := eq_true (by omega)
  have b0 : 0 ≤ (m : Int) := Int.natCast_nonneg _
  have b1 : (m : Int) ≤ 15 := by omega
  have hM' : min m 8 = M := by rw [← hm]; exact hM
  have hite : (if 8 < (m : Int) then (8 : Int) else (m : Int)) = (M : Int) := by split <;> omega
  have hM8 : M ≤ 8 := by omega
  have b2 : IntKind.i64.wrap (M : Int) = M := by rw [IntKind.wrap_i64]; omega
  have b3 : IntKind.i64.wrap (8 * (M : Int)) = 8 * (M : Int) := by rw [IntKind.wrap_i64]; omega
  have b4 : IntKind.i64.wrap (19 + 8 * (M : Int)) = 19 + 8 * (M : Int) := by rw [IntKind.wrap_i64]; omega
  have c5a : ((s.size : Int) < 19 + 8 * (M : Int)) = True := eq_true (by omega)
  have c5b : decide ((s.size : Int) < 19 + 8 * (M : Int)) = true := decide_eq_true (by omega)
  clear h0 h13 hA hAl h14 hR hat hm hml hM' hM8 hM hlow
  have HITE := hid hite
  have hb0 := Blk.new w [.bool false, .int .u32 0, .bool false, .string ⟨#[]⟩] 24
  have HBL := (Below.refl w.heap.size w).alloc (Nat.le_refl _) (.cells #[.bool false, .int .u32 0, .bool false, .string ⟨#[]⟩] 24)
  go_enter Try.func60, Try.ntmps60
  go_wp2_with fail
  refine (rnum_calls _ _ (by rw [ByteArray.size_extract]; omega)).mono ?_
  rintro e w1 ⟨rfl, hb1⟩
  rw [HNUM.out]
  have hx := (hb0.below hb1)
  have HB1 := HBL.trans (hb1.mono HBL.size)
  have hr0 : w.heap.size < w1.heap.size := hx.lt
  clear hb0 hb1 HBL
  generalize hw0 : w.heap.size = r0 at *
  have HW0 := hid hw0
  clear hw0
  have hX := Blk.new w1 [.bool false, .int .u32 A, .bool false, .string ⟨#[]⟩] 24
  have hR0 := hx.alloc (.cells #[.bool false, .int .u32 A, .bool false, .string ⟨#[]⟩] 24)
  have HB2 := HB1.alloc (Nat.le_of_lt hr0) (.cells #[.bool false, .int .u32 A, .bool false, .string ⟨#[]⟩] 24)
  clear hx HB1
  go_wp2_with fail
  generalize hxx : w1.heap.size = x at *
  have hxr : r0 ≠ x := by omega
  have hrx : r0 ≤ x := by omega
  clear hr0 hxx
  refine (rnum_calls _ _ (by rw [ByteArray.size_extract]; omega)).mono ?_
  rintro e w3 ⟨rfl, hb3⟩
  rw [HNU4.out]
  have HB3 := HB2.trans (hb3.mono (Nat.le_of_lt hR0.lt))
  have hX3 := hX.below hb3
  have hR3 := hR0.below hb3
  clear hb3 hX hR0 HB2
  obtain ⟨x0, x1, x2, x3⟩ := frame_res hX3
  obtain ⟨f0, f1, f2, f3⟩ := frame_free hX3
  obtain ⟨_, _, _, _⟩ := frame_res hR3
  obtain ⟨_, _, _, _⟩ := frame_free hR3
  have hz := frame_res (set4_blk hR3 false 0 false ⟨#[]⟩)
  have hbz := set4_below HB3 (Nat.le_refl _) false 0 false ⟨#[]⟩
  unfold set4 at hz hbz
  have HZ := hid hz
  have HBZ := hid hbz
  clear hz hbz
  clear hX3 hR3 HB3
  go_wp2_with fail
  obtain ⟨z0, z1, z2, z3⟩ := HZ.out
  exact bodyPost_ret (v := parseV false 0 false ⟨#[]⟩ 0 10) (by simp [results, Try.results60, go_sem, parseV, z0, z1, z2, z3]) rfl ⟨rfl, by rw [HW0.out]; exact HBZ.out⟩
set_option maxRecDepth 100000 in
set_option maxHeartbeats 3200000 in
theorem rparse_s_data (s : ByteArray) (w : World) (hs : s.size ≤ 140737488351232) (h14 : 14 ≤ s.size) (h0 : (bitsOf s).getD 0 false = false) (h13 : (bitsOf s).getD 13 false = false) (hat : 19 ≤ s.size) (hR : (bitsOf s).getD 12 false = false) (M : Nat) (hM : min (numN (((bitsOf s).drop 15).take 4)) 8 = M) (hlow : 19 + 8 * M ≤ s.size) (A : Nat) (hA : numN (((bitsOf s).drop 1).take 11) = A) (D : List UInt8) (hD : toB (((bitsOf s).drop 19).take (8 * M)) = D) :
    Calls Try.prog 60 #[.string s] w fun e w' => e = .returned (parseV false A false ⟨D.toArray⟩ ((19 + 8 * M : Nat) : Int) 0) ∧ Below w.heap.size w w' := by
  have z0' : 0 < s.size := by omega
  have hb0' := bit_at s 0 z0'
  rw [h0] at hb0'
  have c1a : ((s.size : Int) < 1) = False := eq_false (by omega)
  have c1b : decide ((s.size : Int) < 1) = false := decide_eq_false (by omega)
  have zi0 : (0 : Int) < s.size := by omega
  have c2a : ((s.size : Int) < 14) = False := eq_false (by omega)
  have c2b : decide ((s.size : Int) < 14) = false := decide_eq_false (by omega)
  have z13 : 13 < s.size := by omega
  have zi13 : (13 : Int) < s.size := by omega
  have hb13 := bit_at s 13 z13
  rw [h13] at hb13
  have z12 : 12 < s.size := by omega
  have zi12 : (12 : Int) < s.size := by omega
  have hb12 := bit_at s 12 z12
  rw [hR] at hb12
  have hAl : A < 2048 := by rw [← hA]; exact num_lt _ 1 11
  have HNUM := hid (show num64 (bitsOf (s.extract 1 12)) = A by rw [← hA]; exact num_part s 1 11 (by decide))
  have q1 : ((12 : Int) ≤ (s.size : Int)) = True := eq_true (by omega)
  have q2 : (12 ≤ s.size) = True := eq_true (by omega)
  have e6 : IntKind.u32.wrap (A : Int) = A := by rw [IntKind.wrap_u32]; omega
  have c4a : ((s.size : Int) < 19) = False := eq_false (by omega)
  have c4b : decide ((s.size : Int) < 19) = false := decide_eq_false (by omega)
  obtain ⟨m, hm⟩ : ∃ m, numN (((bitsOf s).drop 15).take 4) = m := ⟨_, rfl⟩
  have hml : m < 16 := by rw [← hm]; exact num_lt _ 15 4
  have HNU4 := hid (show num64 (bitsOf (s.extract 15 19)) = m by rw [← hm]; exact num_part s 15 4 (by decide))
  have r1 : ((19 : Int) ≤ (s.size : Int)) = True := eq_true (by omega)
  have r2 : (19 ≤ s.size) = True := eq_true (by omega)
  have b0 : 0 ≤ (m : Int) := Int.natCast_nonneg _
  have b1 : (m : Int) ≤ 15 := by omega
  have hM' : min m 8 = M := by rw [← hm]; exact hM
  have hite : (if 8 < (m : Int) then (8 : Int) else (m : Int)) = (M : Int) := by split <;> omega
  have hM8 : M ≤ 8 := by omega
  have b2 : IntKind.i64.wrap (M : Int) = M := by rw [IntKind.wrap_i64]; omega
  have b3 : IntKind.i64.wrap (8 * (M : Int)) = 8 * (M : Int) := by rw [IntKind.wrap_i64]; omega
  have b4 : IntKind.i64.wrap (19 + 8 * (M : Int)) = 19 + 8 * (M : Int) := by rw [IntKind.wrap_i64]; omega
  have c5a : ((s.size : Int) < 19 + 8 * (M : Int)) = False := eq_false (by omega)
  have c5b : decide ((s.size : Int) < 19 + 8 * (M : Int)) = false := decide_eq_false (by omega)
  have d1 : ((19 + 8 * (M : Int)) ≤ (s.size : Int)) = True := eq_true (by omega)
  have d2 : (19 + 8 * M ≤ s.size) = True := eq_true (by omega)
  have d3 : ((19 : Int) ≤ (19 + 8 * (M : Int))) = True := eq_true (by omega)
  have d4 : (19 + 8 * (M : Int)).toNat = 19 + 8 * M := by omega
  have HBY := hid (show toB (bitsOf (s.extract 19 (19 + 8 * M))) = D by rw [← hD, bits_extract, Nat.add_sub_cancel_left])
  clear h0 h13 hA hAl h14 hR hat hm hml hM' hM8 hM hlow hD
  have HITE := hid hite
  have hb0 := Blk.new w [.bool false, .int .u32 0, .bool false, .string ⟨#[]⟩] 24
  have HBL := (Below.refl w.heap.size w).alloc (Nat.le_refl _) (.cells #[.bool false, .int .u32 0, .bool false, .string ⟨#[]⟩] 24)
  go_enter Try.func60, Try.ntmps60
  go_wp2_with fail
  refine (rnum_calls _ _ (by rw [ByteArray.size_extract]; omega)).mono ?_
  rintro e w1 ⟨rfl, hb1⟩
  rw [HNUM.out]
  have hx := (hb0.below hb1)
  have HB1 := HBL.trans (hb1.mono HBL.size)
  have hr0 : w.heap.size < w1.heap.size := hx.lt
  clear hb0 hb1 HBL
  generalize hw0 : w.heap.size = r0 at *
  have HW0 := hid hw0
  clear hw0
  have hX := Blk.new w1 [.bool false, .int .u32 A, .bool false, .string ⟨#[]⟩] 24
  have hR0 := hx.alloc (.cells #[.bool false, .int .u32 A, .bool false, .string ⟨#[]⟩] 24)
  have HB2 := HB1.alloc (Nat.le_of_lt hr0) (.cells #[.bool false, .int .u32 A, .bool false, .string ⟨#[]⟩] 24)
  clear hx HB1
  go_wp2_with fail
  generalize hxx : w1.heap.size = x at *
  have hxr : r0 ≠ x := by omega
  have hrx : r0 ≤ x := by omega
  clear hr0 hxx
  refine (rnum_calls _ _ (by rw [ByteArray.size_extract]; omega)).mono ?_
  rintro e w3 ⟨rfl, hb3⟩
  rw [HNU4.out]
  have HB3 := HB2.trans (hb3.mono (Nat.le_of_lt hR0.lt))
  have hX3 := hX.below hb3
  have hR3 := hR0.below hb3
  clear hb3 hX hR0 HB2
  obtain ⟨x0, x1, x2, x3⟩ := frame_res hX3
  obtain ⟨f0, f1, f2, f3⟩ := frame_free hX3
  have HX := hid hX3
  have HR0 := hid hR3
  have HBB := hid HB3
  clear hX3 hR3 HB3
  go_wp2_with fail
  refine (rbytes_calls _ _ (by first | (rw [ByteArray.size_extract]; omega) | decide)).mono ?_
  rintro e w6 ⟨rfl, hb6⟩
  rw [HBY.out]
  have hX6 := HX.out.below hb6
  have hR6 := HR0.out.below hb6
  have hBW6 := HBB.out.trans (hb6.mono (Nat.le_of_lt HR0.out.lt))
  have hX7 := hX6.set 3 (.string ⟨D.toArray⟩)
  simp only [List.set_cons_zero, List.set_cons_succ] at hX7
  have hR7 := hR6.far (p := ⟨x, 3, none⟩) hxr (.string ⟨D.toArray⟩)
  have hBW7 := hBW6.setCell (p := ⟨x, 3, none⟩) (by exact hrx) (.string ⟨D.toArray⟩)
  clear x0 x1 x2 x3 f0 f1 f2 f3
  obtain ⟨u0, u1, u2, u3⟩ := frame_res hX6
  obtain ⟨v0, v1, v2, v3⟩ := frame_free hX6
  obtain ⟨s0, s1, s2, s3⟩ := frame_res hX7
  obtain ⟨t0, t1, t2, t3⟩ := frame_free hR7
  obtain ⟨r1', r2', r3', r4'⟩ := frame_res hR7
  have hz := frame_res (set4_blk hR7 false A false ⟨D.toArray⟩)
  have hbz := set4_below hBW7 (Nat.le_refl _) false A false ⟨D.toArray⟩
  unfold set4 at hz hbz
  have HZ := hid hz
  have HBZ := hid hbz
  clear hz hbz hb6 hX6 hR6 hBW6 hX7 hR7 hBW7 HX HR0 HBB
  go_wp2_with fail
  obtain ⟨z0, z1, z2, z3⟩ := HZ.out
  exact bodyPost_ret (v := parseV false A false ⟨D.toArray⟩ ((19 + 8 * M : Nat) : Int) 0) (by simp [results, Try.results60, go_sem, parseV, z0, z1, z2, z3]) rfl ⟨rfl, by rw [HW0.out]; exact HBZ.out⟩
set_option maxRecDepth 100000 in
set_option maxHeartbeats 3200000 in
theorem rparse_x_bad (s : ByteArray) (w : World) (hs : s.size ≤ 140737488351232) (h14 : 14 ≤ s.size) (h0 : (bitsOf s).getD 0 false = false) (h13 : (bitsOf s).getD 13 false = true) (h12 : (bitsOf s).getD 12 false = false) :
    Calls Try.prog 60 #[.string s] w fun e w' => e = .returned (parseV false 0 false ⟨#[]⟩ 0 12) ∧ Below w.heap.size w w' := by
  obtain ⟨A, hA⟩ : ∃ A, numN (((bitsOf s).drop 1).take 11) = A := ⟨_, rfl⟩
  obtain ⟨B, hB⟩ : ∃ B, numN (((bitsOf s).drop 14).take 18) = B := ⟨_, rfl⟩
  have z0' : 0 < s.size := by omega
  have hb0' := bit_at s 0 z0'
  rw [h0] at hb0'
  have c1a : ((s.size : Int) < 1) = False := eq_false (by omega)
  have c1b : decide ((s.size : Int) < 1) = false := decide_eq_false (by omega)
  have zi0 : (0 : Int) < s.size := by omega
  have c2a : ((s.size : Int) < 14) = False := eq_false (by omega)
  have c2b : decide ((s.size : Int) < 14) = false := decide_eq_false (by omega)
  have z13 : 13 < s.size := by omega
  have zi13 : (13 : Int) < s.size := by omega
  have hb13 := bit_at s 13 z13
  rw [h13] at hb13
  have z12 : 12 < s.size := by omega
  have zi12 : (12 : Int) < s.size := by omega
  have hb12 := bit_at s 12 z12
  have hb12' : (((s[12]'z12).toNat : Int) != 49) = true := by rw [bne, hb12, h12]; rfl
  rw [h12] at hb12
  have hAl : A < 2048 := by rw [← hA]; exact num_lt _ 1 11
  have HNUM := hid (show num64 (bitsOf (s.extract 1 12)) = A by rw [← hA]; exact num_part s 1 11 (by decide))
  have q1 : ((12 : Int) ≤ (s.size : Int)) = True := eq_true (by omega)
  have q2 : (12 ≤ s.size) = True := eq_true (by omega)
  have e6 : IntKind.u32.wrap (A : Int) = A := by rw [IntKind.wrap_u32]; omega
  clear h0 h13 hA hAl h14 h12 hB
  have hb0 := Blk.new w [.bool false, .int .u32 0, .bool false, .string ⟨#[]⟩] 24
  have HBL := (Below.refl w.heap.size w).alloc (Nat.le_refl _) (.cells #[.bool false, .int .u32 0, .bool false, .string ⟨#[]⟩] 24)
  go_enter Try.func60, Try.ntmps60
  go_wp2_with fail
  refine (rnum_calls _ _ (by rw [ByteArray.size_extract]; omega)).mono ?_
  rintro e w1 ⟨rfl, hb1⟩
  rw [HNUM.out]
  have hx := (hb0.below hb1)
  have HB1 := HBL.trans (hb1.mono HBL.size)
  have hr0 : w.heap.size < w1.heap.size := hx.lt
  clear hb0 hb1 HBL
  generalize hw0 : w.heap.size = r0 at *
  have HW0 := hid hw0
  clear hw0
  obtain ⟨_, _, _, _⟩ := frame_res hx
  obtain ⟨_, _, _, _⟩ := frame_free hx
  have hz := frame_res ((set4_blk hx false 0 false ⟨#[]⟩).alloc (.cells #[.bool false, .int .u32 A, .bool false, .string ⟨#[]⟩] 24))
  have hbz := (set4_below HB1 (Nat.le_refl _) false 0 false ⟨#[]⟩).alloc (by simp [set4, World.setCell]; omega) (.cells #[.bool false, .int .u32 A, .bool false, .string ⟨#[]⟩] 24)
  unfold set4 at hz hbz
  have HZ := hid hz
  have HBZ := hid hbz
  clear hz hbz hx HB1
  go_wp2_with fail
  obtain ⟨z0, z1, z2, z3⟩ := HZ.out
  exact bodyPost_ret (v := parseV false 0 false ⟨#[]⟩ 0 12) (by simp [results, Try.results60, go_sem, parseV, z0, z1, z2, z3]) rfl ⟨rfl, by rw [HW0.out]; exact HBZ.out⟩
set_option maxRecDepth 100000 in
set_option maxHeartbeats 3200000 in
theorem rparse_x_r5 (s : ByteArray) (w : World) (hs : s.size ≤ 140737488351232) (h14 : 14 ≤ s.size) (h0 : (bitsOf s).getD 0 false = false) (h13 : (bitsOf s).getD 13 false = true) (h12 : (bitsOf s).getD 12 false = true) (h33 : s.size < 33) :
    Calls Try.prog 60 #[.string s] w fun e w' => e = .returned (parseV false 0 false ⟨#[]⟩ 0 10) ∧ Below w.heap.size w w' := by
  obtain ⟨A, hA⟩ : ∃ A, numN (((bitsOf s).drop 1).take 11) = A := ⟨_, rfl⟩
  obtain ⟨B, hB⟩ : ∃ B, numN (((bitsOf s).drop 14).take 18) = B := ⟨_, rfl⟩
  have z0' : 0 < s.size := by omega
  have hb0' := bit_at s 0 z0'
  rw [h0] at hb0'
  have c1a : ((s.size : Int) < 1) = False := eq_false (by omega)
  have c1b : decide ((s.size : Int) < 1) = false := decide_eq_false (by omega)
  have zi0 : (0 : Int) < s.size := by omega
  have c2a : ((s.size : Int) < 14) = False := eq_false (by omega)
  have c2b : decide ((s.size : Int) < 14) = false := decide_eq_false (by omega)
  have z13 : 13 < s.size := by omega
  have zi13 : (13 : Int) < s.size := by omega
  have hb13 := bit_at s 13 z13
  rw [h13] at hb13
  have z12 : 12 < s.size := by omega
  have zi12 : (12 : Int) < s.size := by omega
  have hb12 := bit_at s 12 z12
  have hb12' : (((s[12]'z12).toNat : Int) != 49) = false := by rw [bne, hb12, h12]; rfl
  rw [h12] at hb12
  have c3a : ((s.size : Int) < 33) = True := eq_true (by omega)
  have c3b : decide ((s.size : Int) < 33) = true := decide_eq_true (by omega)
  have hAl : A < 2048 := by rw [← hA]; exact num_lt _ 1 11
  have HNUM := hid (show num64 (bitsOf (s.extract 1 12)) = A by rw [← hA]; exact num_part s 1 11 (by decide))
  have q1 : ((12 : Int) ≤ (s.size : Int)) = True := eq_true (by omega)
  have q2 : (12 ≤ s.size) = True := eq_true (by omega)
  have e6 : IntKind.u32.wrap (A : Int) = A := by rw [IntKind.wrap_u32]; omega
  clear h0 h13 hA hAl h14 h12 hB h33
  have hb0 := Blk.new w [.bool false, .int .u32 0, .bool false, .string ⟨#[]⟩] 24
  have HBL := (Below.refl w.heap.size w).alloc (Nat.le_refl _) (.cells #[.bool false, .int .u32 0, .bool false, .string ⟨#[]⟩] 24)
  go_enter Try.func60, Try.ntmps60
  go_wp2_with fail
  refine (rnum_calls _ _ (by rw [ByteArray.size_extract]; omega)).mono ?_
  rintro e w1 ⟨rfl, hb1⟩
  rw [HNUM.out]
  have hx := (hb0.below hb1)
  have HB1 := HBL.trans (hb1.mono HBL.size)
  have hr0 : w.heap.size < w1.heap.size := hx.lt
  clear hb0 hb1 HBL
  generalize hw0 : w.heap.size = r0 at *
  have HW0 := hid hw0
  clear hw0
  obtain ⟨_, _, _, _⟩ := frame_res hx
  obtain ⟨_, _, _, _⟩ := frame_free hx
  have hz := frame_res ((set4_blk hx false 0 false ⟨#[]⟩).alloc (.cells #[.bool false, .int .u32 A, .bool false, .string ⟨#[]⟩] 24))
  have hbz := (set4_below HB1 (Nat.le_refl _) false 0 false ⟨#[]⟩).alloc (by simp [set4, World.setCell]; omega) (.cells #[.bool false, .int .u32 A, .bool false, .string ⟨#[]⟩] 24)
  unfold set4 at hz hbz
  have HZ := hid hz
  have HBZ := hid hbz
  clear hz hbz hx HB1
  go_wp2_with fail
  obtain ⟨z0, z1, z2, z3⟩ := HZ.out
  exact bodyPost_ret (v := parseV false 0 false ⟨#[]⟩ 0 10) (by simp [results, Try.results60, go_sem, parseV, z0, z1, z2, z3]) rfl ⟨rfl, by rw [HW0.out]; exact HBZ.out⟩
set_option maxRecDepth 100000 in
set_option maxHeartbeats 3200000 in
theorem rparse_x_a (s : ByteArray) (w : World) (hs : s.size ≤ 140737488351232) (h14 : 33 ≤ s.size) (h0 : (bitsOf s).getD 0 false = false) (h13 : (bitsOf s).getD 13 false = true) (h12 : (bitsOf s).getD 12 false = true) (hat : s.size < 39) (R : Bool) (hR : (bitsOf s).getD 32 false = R) :
    Calls Try.prog 60 #[.string s] w fun e w' => e = .returned (parseV false 0 false ⟨#[]⟩ 0 10) ∧ Below w.heap.size w w' := by
  obtain ⟨A, hA⟩ : ∃ A, numN (((bitsOf s).drop 1).take 11) = A := ⟨_, rfl⟩
  obtain ⟨B, hB⟩ : ∃ B, numN (((bitsOf s).drop 14).take 18) = B := ⟨_, rfl⟩
  have z0' : 0 < s.size := by omega
  have hb0' := bit_at s 0 z0'
  rw [h0] at hb0'
  have c1a : ((s.size : Int) < 1) = False := eq_false (by omega)
  have c1b : decide ((s.size : Int) < 1) = false := decide_eq_false (by omega)
  have zi0 : (0 : Int) < s.size := by omega
  have c2a : ((s.size : Int) < 14) = False := eq_false (by omega)
  have c2b : decide ((s.size : Int) < 14) = false := decide_eq_false (by omega)
  have z13 : 13 < s.size := by omega
  have zi13 : (13 : Int) < s.size := by omega
  have hb13 := bit_at s 13 z13
  rw [h13] at hb13
  have z12 : 12 < s.size := by omega
  have zi12 : (12 : Int) < s.size := by omega
  have hb12 := bit_at s 12 z12
  have hb12' : (((s[12]'z12).toNat : Int) != 49) = false := by rw [bne, hb12, h12]; rfl
  rw [h12] at hb12
  have c3a : ((s.size : Int) < 33) = False := eq_false (by omega)
  have c3b : decide ((s.size : Int) < 33) = false := decide_eq_false (by omega)
  have z32 : 32 < s.size := by omega
  have zi32 : (32 : Int) < s.size := by omega
  have hb32 := bit_at s 32 z32
  rw [hR] at hb32
  have p1 : ((32 : Int) ≤ (s.size : Int)) = True := eq_true (by omega)
  have p2 : (32 ≤ s.size) = True := eq_true (by omega)
  have hAl : A < 2048 := by rw [← hA]; exact num_lt _ 1 11
  have HNUM := hid (show num64 (bitsOf (s.extract 1 12)) = A by rw [← hA]; exact num_part s 1 11 (by decide))
  have q1 : ((12 : Int) ≤ (s.size : Int)) = True := eq_true (by omega)
  have q2 : (12 ≤ s.size) = True := eq_true (by omega)
  have e6 : IntKind.u32.wrap (A : Int) = A := by rw [IntKind.wrap_u32]; omega
  have hBl : B < 262144 := by rw [← hB]; exact num_lt _ 14 18
  have HNUB := hid (show num64 (bitsOf (s.extract 14 32)) = B by rw [← hB]; exact num_part s 14 18 (by decide))
  have HID := hid (id_join A B hAl hBl)
  have e7 : IntKind.u32.wrap (B : Int) = B := by rw [IntKind.wrap_u32]; omega
  have c4a : ((s.size : Int) < 39) = True := eq_true (by omega)
  have c4b : decide ((s.size : Int) < 39) = true := decide_eq_true (by omega)
  clear h0 h13 hA hAl h14 h12 hB hBl hR hat
  have hb0 := Blk.new w [.bool false, .int .u32 0, .bool false, .string ⟨#[]⟩] 24
  have HBL := (Below.refl w.heap.size w).alloc (Nat.le_refl _) (.cells #[.bool false, .int .u32 0, .bool false, .string ⟨#[]⟩] 24)
  go_enter Try.func60, Try.ntmps60
  go_wp2_with fail
  refine (rnum_calls _ _ (by rw [ByteArray.size_extract]; omega)).mono ?_
  rintro e w1 ⟨rfl, hb1⟩
  rw [HNUM.out]
  have hx := (hb0.below hb1)
  have HB1 := HBL.trans (hb1.mono HBL.size)
  have hr0 : w.heap.size < w1.heap.size := hx.lt
  clear hb0 hb1 HBL
  generalize hw0 : w.heap.size = r0 at *
  have HW0 := hid hw0
  clear hw0
  have hX := Blk.new w1 [.bool true, .int .u32 A, .bool false, .string ⟨#[]⟩] 24
  have hR0 := hx.alloc (.cells #[.bool true, .int .u32 A, .bool false, .string ⟨#[]⟩] 24)
  have HB2 := HB1.alloc (Nat.le_of_lt hr0) (.cells #[.bool true, .int .u32 A, .bool false, .string ⟨#[]⟩] 24)
  clear hx HB1
  go_wp2_with fail
  generalize hxx : w1.heap.size = x at *
  have hxr : r0 ≠ x := by omega
  have hrx : r0 ≤ x := by omega
  clear hr0 hxx
  generalize w1.alloc (.cells #[.bool true, .int .u32 A, .bool false, .string ⟨#[]⟩] 24) = W5 at *
  refine region_text (by kernel_rfl) (by kernel_rfl) (fun b _ W => (∃ v, Blk W x 24 [.bool true, .int .u32 v, .bool false, .string ⟨#[]⟩] ∧ (b 9 = false → v = A) ∧ (b 9 = true → v = ((A * 262144 + B : Nat) : Int))) ∧ Blk W r0 24 [.bool false, .int .u32 0, .bool false, .string ⟨#[]⟩] ∧ Below r0 w W) ⟨⟨_, hX.drew, fun _ => rfl, fun h => by simp at h⟩, hR0.drew, HB2.drew⟩ ?_
  refine t_pure (.pointer (some ⟨x, 1, none⟩)) (fun _ => rfl) (fun b γ W h => h) (fun b γ W h _ => by go_simp) ?_
  refine t_run (.int .u32 A) (fun _ => rfl) (fun b γ W h hb _ hf => ⟨W, ?_, h⟩) ?_
  · obtain ⟨⟨v, h1, h2, _⟩, _⟩ := h
    obtain rfl := h2 (hf 9 _ rfl (by decide))
    obtain ⟨_, x1, _, _⟩ := frame_res h1
    go_simp
  refine t_pure (.int .u32 (A * 262144)) (fun _ => rfl) (fun b γ W h => h) (fun b γ W h _ => by have e8 := HID.out.1; go_simp) ?_
  refine t_pure (.string s) (fun _ => rfl) (fun b γ W h => h) (fun b γ W h _ => by go_simp) ?_
  refine t_pure (.string (s.extract 14 32)) (fun _ => rfl) (fun b γ W h => h) (fun b γ W h _ => by go_simp) ?_
  refine t_call (.int .u64 B) (fun _ => rfl) (f := 69) (args := #[.string (s.extract 14 32)]) (fun b γ W h _ => by go_simp) (fun b γ W h _ => (rnum_calls _ W (by rw [ByteArray.size_extract]; omega)).mono ?_) ?_
  · rintro e w2 ⟨rfl, hbw⟩
    obtain ⟨⟨v, h1, h2⟩, h3, h4⟩ := h
    exact ⟨by rw [HNUB.out], ⟨v, h1.below hbw, h2⟩, h3.below hbw, h4.trans (hbw.mono (Nat.le_of_lt h3.lt))⟩
  refine t_pure (.int .u32 B) (fun _ => rfl) (fun b γ W h => h) (fun b γ W h _ => by go_simp) ?_
  refine t_pure (.int .u32 ((A * 262144 + B : Nat) : Int)) (fun _ => rfl) (fun b γ W h => h) (fun b γ W h _ => by have e8 := HID.out.2; go_simp) ?_
  refine t_pure (.pointer (some ⟨x, 1, none⟩)) (fun _ => rfl) (fun b γ W h => h) (fun b γ W h _ => by go_simp) ?_
  refine t_store (fun _ => rfl) (fun b γ W h hb hn hf => ?_) ?_
  · obtain ⟨⟨v, h1, h2, _⟩, h3, h4⟩ := h
    obtain ⟨_, x1, _, _⟩ := frame_res h1
    obtain ⟨_, f1, _, _⟩ := frame_free h1
    refine ⟨W.setCell ⟨x, 1, none⟩ (.int .u32 ((A * 262144 + B : Nat) : Int)), by go_simp, ⟨_, h1.set 1 _, fun h => (by simp [up] at h), fun _ => rfl⟩, h3.far (p := ⟨x, 1, none⟩) hxr _, h4.setCell (p := ⟨x, 1, none⟩) (by exact hrx) _⟩
  refine t_end ?_
  intro bq gq w6 hall hS
  obtain ⟨⟨v, h1, _, h2⟩, h3, h4⟩ := hS
  obtain rfl := h2 (hall 9 (by decide))
  clear hall h2 hX hR0 HB2
  simp only [Act.put, List.setIfInBounds_toArray, List.set_cons_zero, List.set_cons_succ]
  generalize hI : A * 262144 + B = I at *
  have HI := hid hI
  clear hI
  obtain ⟨x0, x1, x2, x3⟩ := frame_res h1
  obtain ⟨f0, f1, f2, f3⟩ := frame_free h1
  have hX := h1.set 2 (.bool R)
  simp only [List.set_cons_zero, List.set_cons_succ] at hX
  have hR0 := h3.far (p := ⟨x, 2, none⟩) hxr (.bool R)
  have HB2 := h4.setCell (p := ⟨x, 2, none⟩) (by exact hrx) (.bool R)
  clear h1 h3 h4
  obtain ⟨_, _, _, _⟩ := frame_res hR0
  obtain ⟨_, _, _, _⟩ := frame_free hR0
  have hz := frame_res (set4_blk hR0 false 0 false ⟨#[]⟩)
  have hbz := set4_below HB2 (Nat.le_refl _) false 0 false ⟨#[]⟩
  unfold set4 at hz hbz
  have HZ := hid hz
  have HBZ := hid hbz
  clear hz hbz
  clear hX hR0 HB2
  go_wp2_with fail
  obtain ⟨z0, z1, z2, z3⟩ := HZ.out
  exact bodyPost_ret (v := parseV false 0 false ⟨#[]⟩ 0 10) (by simp [results, Try.results60, go_sem, parseV, z0, z1, z2, z3]) rfl ⟨rfl, by rw [HW0.out]; exact HBZ.out⟩
set_option maxRecDepth 100000 in
set_option maxHeartbeats 3200000 in
theorem rparse_x_rtr (s : ByteArray) (w : World) (hs : s.size ≤ 140737488351232) (h14 : 33 ≤ s.size) (h0 : (bitsOf s).getD 0 false = false) (h13 : (bitsOf s).getD 13 false = true) (h12 : (bitsOf s).getD 12 false = true) (hat : 39 ≤ s.size) (hR : (bitsOf s).getD 32 false = true) (A : Nat) (hA : numN (((bitsOf s).drop 1).take 11) = A) (B : Nat) (hB : numN (((bitsOf s).drop 14).take 18) = B) :
    Calls Try.prog 60 #[.string s] w fun e w' => e = .returned (parseV true ((A * 262144 + B : Nat) : Int) true ⟨#[]⟩ 39 0) ∧ Below w.heap.size w w' := by
  have z0' : 0 < s.size := by omega
  have hb0' := bit_at s 0 z0'
  rw [h0] at hb0'
  have c1a : ((s.size : Int) < 1) = False := eq_false (by omega)
  have c1b : decide ((s.size : Int) < 1) = false := decide_eq_false (by omega)
  have zi0 : (0 : Int) < s.size := by omega
  have c2a : ((s.size : Int) < 14) = False := eq_false (by omega)
  have c2b : decide ((s.size : Int) < 14) = false := decide_eq_false (by omega)
  have z13 : 13 < s.size := by omega
  have zi13 : (13 : Int) < s.size := by omega
  have hb13 := bit_at s 13 z13
  rw [h13] at hb13
  have z12 : 12 < s.size := by omega
  have zi12 : (12 : Int) < s.size := by omega
  have hb12 := bit_at s 12 z12
  have hb12' : (((s[12]'z12).toNat : Int) != 49) = false := by rw [bne, hb12, h12]; rfl
  rw [h12] at hb12
  have c3a : ((s.size : Int) < 33) = False := eq_false (by omega)
  have c3b : decide ((s.size : Int) < 33) = false := decide_eq_false (by omega)
  have z32 : 32 < s.size := by omega
  have zi32 : (32 : Int) < s.size := by omega
  have hb32 := bit_at s 32 z32
  rw [hR] at hb32
  have p1 : ((32 : Int) ≤ (s.size : Int)) = True := eq_true (by omega)
  have p2 : (32 ≤ s.size) = True := eq_true (by omega)
  have hAl : A < 2048 := by rw [← hA]; exact num_lt _ 1 11
  have HNUM := hid (show num64 (bitsOf (s.extract 1 12)) = A by rw [← hA]; exact num_part s 1 11 (by decide))
  have q1 : ((12 : Int) ≤ (s.size : Int)) = True := eq_true (by omega)
  have q2 : (12 ≤ s.size) = True := eq_true (by omega)
  have e6 : IntKind.u32.wrap (A : Int) = A := by rw [IntKind.wrap_u32]; omega
  have hBl : B < 262144 := by rw [← hB]; exact num_lt _ 14 18
  have HNUB := hid (show num64 (bitsOf (s.extract 14 32)) = B by rw [← hB]; exact num_part s 14 18 (by decide))
  have HID := hid (id_join A B hAl hBl)
  have e7 : IntKind.u32.wrap (B : Int) = B := by rw [IntKind.wrap_u32]; omega
  have c4a : ((s.size : Int) < 39) = False := eq_false (by omega)
  have c4b : decide ((s.size : Int) < 39) = false := decide_eq_false (by omega)
  obtain ⟨m, hm⟩ : ∃ m, numN (((bitsOf s).drop 35).take 4) = m := ⟨_, rfl⟩
  have hml : m < 16 := by rw [← hm]; exact num_lt _ 35 4
  have HNU4 := hid (show num64 (bitsOf (s.extract 35 39)) = m by rw [← hm]; exact num_part s 35 4 (by decide))
  have r1 : ((39 : Int) ≤ (s.size : Int)) = True := eq_true (by omega)
  have r2 : (39 ≤ s.size) = True := eq_true (by omega)
  have b0 : 0 ≤ (m : Int) := Int.natCast_nonneg _
  have b1 : (m : Int) ≤ 15 := by omega
  obtain ⟨M, hM'⟩ : ∃ M, min m 8 = M := ⟨_, rfl⟩
  have hite : (if 8 < (m : Int) then (8 : Int) else (m : Int)) = (M : Int) := by split <;> omega
  have hM8 : M ≤ 8 := by omega
  have b2 : IntKind.i64.wrap (M : Int) = M := by rw [IntKind.wrap_i64]; omega
  have b3 : IntKind.i64.wrap (8 * (M : Int)) = 8 * (M : Int) := by rw [IntKind.wrap_i64]; omega
  have b4 : IntKind.i64.wrap (39 + 8 * (M : Int)) = 39 + 8 * (M : Int) := by rw [IntKind.wrap_i64]; omega
  have HBY := hid (show toB (bitsOf ByteArray.empty) = [] from rfl)
  clear h0 h13 hA hAl h14 h12 hB hBl hR hat hm hml hM' hM8
  have HITE := hid hite
  have hb0 := Blk.new w [.bool false, .int .u32 0, .bool false, .string ⟨#[]⟩] 24
  have HBL := (Below.refl w.heap.size w).alloc (Nat.le_refl _) (.cells #[.bool false, .int .u32 0, .bool false, .string ⟨#[]⟩] 24)
  go_enter Try.func60, Try.ntmps60
  go_wp2_with fail
  refine (rnum_calls _ _ (by rw [ByteArray.size_extract]; omega)).mono ?_
  rintro e w1 ⟨rfl, hb1⟩
  rw [HNUM.out]
  have hx := (hb0.below hb1)
  have HB1 := HBL.trans (hb1.mono HBL.size)
  have hr0 : w.heap.size < w1.heap.size := hx.lt
  clear hb0 hb1 HBL
  generalize hw0 : w.heap.size = r0 at *
  have HW0 := hid hw0
  clear hw0
  have hX := Blk.new w1 [.bool true, .int .u32 A, .bool false, .string ⟨#[]⟩] 24
  have hR0 := hx.alloc (.cells #[.bool true, .int .u32 A, .bool false, .string ⟨#[]⟩] 24)
  have HB2 := HB1.alloc (Nat.le_of_lt hr0) (.cells #[.bool true, .int .u32 A, .bool false, .string ⟨#[]⟩] 24)
  clear hx HB1
  go_wp2_with fail
  generalize hxx : w1.heap.size = x at *
  have hxr : r0 ≠ x := by omega
  have hrx : r0 ≤ x := by omega
  clear hr0 hxx
  generalize w1.alloc (.cells #[.bool true, .int .u32 A, .bool false, .string ⟨#[]⟩] 24) = W5 at *
  refine region_text (by kernel_rfl) (by kernel_rfl) (fun b _ W => (∃ v, Blk W x 24 [.bool true, .int .u32 v, .bool false, .string ⟨#[]⟩] ∧ (b 9 = false → v = A) ∧ (b 9 = true → v = ((A * 262144 + B : Nat) : Int))) ∧ Blk W r0 24 [.bool false, .int .u32 0, .bool false, .string ⟨#[]⟩] ∧ Below r0 w W) ⟨⟨_, hX.drew, fun _ => rfl, fun h => by simp at h⟩, hR0.drew, HB2.drew⟩ ?_
  refine t_pure (.pointer (some ⟨x, 1, none⟩)) (fun _ => rfl) (fun b γ W h => h) (fun b γ W h _ => by go_simp) ?_
  refine t_run (.int .u32 A) (fun _ => rfl) (fun b γ W h hb _ hf => ⟨W, ?_, h⟩) ?_
  · obtain ⟨⟨v, h1, h2, _⟩, _⟩ := h
    obtain rfl := h2 (hf 9 _ rfl (by decide))
    obtain ⟨_, x1, _, _⟩ := frame_res h1
    go_simp
  refine t_pure (.int .u32 (A * 262144)) (fun _ => rfl) (fun b γ W h => h) (fun b γ W h _ => by have e8 := HID.out.1; go_simp) ?_
  refine t_pure (.string s) (fun _ => rfl) (fun b γ W h => h) (fun b γ W h _ => by go_simp) ?_
  refine t_pure (.string (s.extract 14 32)) (fun _ => rfl) (fun b γ W h => h) (fun b γ W h _ => by go_simp) ?_
  refine t_call (.int .u64 B) (fun _ => rfl) (f := 69) (args := #[.string (s.extract 14 32)]) (fun b γ W h _ => by go_simp) (fun b γ W h _ => (rnum_calls _ W (by rw [ByteArray.size_extract]; omega)).mono ?_) ?_
  · rintro e w2 ⟨rfl, hbw⟩
    obtain ⟨⟨v, h1, h2⟩, h3, h4⟩ := h
    exact ⟨by rw [HNUB.out], ⟨v, h1.below hbw, h2⟩, h3.below hbw, h4.trans (hbw.mono (Nat.le_of_lt h3.lt))⟩
  refine t_pure (.int .u32 B) (fun _ => rfl) (fun b γ W h => h) (fun b γ W h _ => by go_simp) ?_
  refine t_pure (.int .u32 ((A * 262144 + B : Nat) : Int)) (fun _ => rfl) (fun b γ W h => h) (fun b γ W h _ => by have e8 := HID.out.2; go_simp) ?_
  refine t_pure (.pointer (some ⟨x, 1, none⟩)) (fun _ => rfl) (fun b γ W h => h) (fun b γ W h _ => by go_simp) ?_
  refine t_store (fun _ => rfl) (fun b γ W h hb hn hf => ?_) ?_
  · obtain ⟨⟨v, h1, h2, _⟩, h3, h4⟩ := h
    obtain ⟨_, x1, _, _⟩ := frame_res h1
    obtain ⟨_, f1, _, _⟩ := frame_free h1
    refine ⟨W.setCell ⟨x, 1, none⟩ (.int .u32 ((A * 262144 + B : Nat) : Int)), by go_simp, ⟨_, h1.set 1 _, fun h => (by simp [up] at h), fun _ => rfl⟩, h3.far (p := ⟨x, 1, none⟩) hxr _, h4.setCell (p := ⟨x, 1, none⟩) (by exact hrx) _⟩
  refine t_end ?_
  intro bq gq w6 hall hS
  obtain ⟨⟨v, h1, _, h2⟩, h3, h4⟩ := hS
  obtain rfl := h2 (hall 9 (by decide))
  clear hall h2 hX hR0 HB2
  simp only [Act.put, List.setIfInBounds_toArray, List.set_cons_zero, List.set_cons_succ]
  generalize hI : A * 262144 + B = I at *
  have HI := hid hI
  clear hI
  obtain ⟨x0, x1, x2, x3⟩ := frame_res h1
  obtain ⟨f0, f1, f2, f3⟩ := frame_free h1
  have hX := h1.set 2 (.bool true)
  simp only [List.set_cons_zero, List.set_cons_succ] at hX
  have hR0 := h3.far (p := ⟨x, 2, none⟩) hxr (.bool true)
  have HB2 := h4.setCell (p := ⟨x, 2, none⟩) (by exact hrx) (.bool true)
  clear h1 h3 h4
  have HX := hid hX
  have HR0 := hid hR0
  have HBB := hid HB2
  clear hX hR0 HB2
  go_wp2_with fail
  have hX := HX.out
  have hR0 := HR0.out
  have HB2 := HBB.out
  clear HX HR0 HBB x0 x1 x2 x3 f0 f1 f2 f3
  refine (rnum_calls _ _ (by rw [ByteArray.size_extract]; omega)).mono ?_
  rintro e w3 ⟨rfl, hb3⟩
  rw [HNU4.out]
  have HB3 := HB2.trans (hb3.mono (Nat.le_of_lt hR0.lt))
  have hX3 := hX.below hb3
  have hR3 := hR0.below hb3
  clear hb3 hX hR0 HB2
  obtain ⟨x0, x1, x2, x3⟩ := frame_res hX3
  obtain ⟨f0, f1, f2, f3⟩ := frame_free hX3
  have HX := hid hX3
  have HR0 := hid hR3
  have HBB := hid HB3
  clear hX3 hR3 HB3
  go_wp2_with fail
  refine (rbytes_calls _ _ (by first | (rw [ByteArray.size_extract]; omega) | decide)).mono ?_
  rintro e w6 ⟨rfl, hb6⟩
  rw [HBY.out]
  have hX6 := HX.out.below hb6
  have hR6 := HR0.out.below hb6
  have hBW6 := HBB.out.trans (hb6.mono (Nat.le_of_lt HR0.out.lt))
  have hX7 := hX6.set 3 (.string ⟨([] : List UInt8).toArray⟩)
  simp only [List.set_cons_zero, List.set_cons_succ] at hX7
  have hR7 := hR6.far (p := ⟨x, 3, none⟩) hxr (.string ⟨([] : List UInt8).toArray⟩)
  have hBW7 := hBW6.setCell (p := ⟨x, 3, none⟩) (by exact hrx) (.string ⟨([] : List UInt8).toArray⟩)
  clear x0 x1 x2 x3 f0 f1 f2 f3
  obtain ⟨u0, u1, u2, u3⟩ := frame_res hX6
  obtain ⟨v0, v1, v2, v3⟩ := frame_free hX6
  obtain ⟨s0, s1, s2, s3⟩ := frame_res hX7
  obtain ⟨t0, t1, t2, t3⟩ := frame_free hR7
  obtain ⟨r1', r2', r3', r4'⟩ := frame_res hR7
  have hz := frame_res (set4_blk hR7 true I true ⟨#[]⟩)
  have hbz := set4_below hBW7 (Nat.le_refl _) true I true ⟨#[]⟩
  unfold set4 at hz hbz
  have HZ := hid hz
  have HBZ := hid hbz
  clear hz hbz hb6 hX6 hR6 hBW6 hX7 hR7 hBW7 HX HR0 HBB
  go_wp2_with fail
  obtain ⟨z0, z1, z2, z3⟩ := HZ.out
  exact bodyPost_ret (v := parseV true I true ⟨#[]⟩ 39 0) (by simp [results, Try.results60, go_sem, parseV, z0, z1, z2, z3]) rfl ⟨by rw [HI.out], by rw [HW0.out]; exact HBZ.out⟩
set_option maxRecDepth 100000 in
set_option maxHeartbeats 3200000 in
theorem rparse_x_low (s : ByteArray) (w : World) (hs : s.size ≤ 140737488351232) (h14 : 33 ≤ s.size) (h0 : (bitsOf s).getD 0 false = false) (h13 : (bitsOf s).getD 13 false = true) (h12 : (bitsOf s).getD 12 false = true) (hat : 39 ≤ s.size) (hR : (bitsOf s).getD 32 false = false) (M : Nat) (hM : min (numN (((bitsOf s).drop 35).take 4)) 8 = M) (hlow : s.size < 39 + 8 * M) :
    Calls Try.prog 60 #[.string s] w fun e w' => e = .returned (parseV false 0 false ⟨#[]⟩ 0 10) ∧ Below w.heap.size w w' := by
  obtain ⟨A, hA⟩ : ∃ A, numN (((bitsOf s).drop 1).take 11) = A := ⟨_, rfl⟩
  obtain ⟨B, hB⟩ : ∃ B, numN (((bitsOf s).drop 14).take 18) = B := ⟨_, rfl⟩
  have z0' : 0 < s.size := by omega
  have hb0' := bit_at s 0 z0'
  rw [h0] at hb0'
  have c1a : ((s.size : Int) < 1) = False := eq_false (by omega)
  have c1b : decide ((s.size : Int) < 1) = false := decide_eq_false (by omega)
  have zi0 : (0 : Int) < s.size := by omega
  have c2a : ((s.size : Int) < 14) = False := eq_false (by omega)
  have c2b : decide ((s.size : Int) < 14) = false := decide_eq_false (by omega)
  have z13 : 13 < s.size := by omega
  have zi13 : (13 : Int) < s.size := by omega
  have hb13 := bit_at s 13 z13
  rw [h13] at hb13
  have z12 : 12 < s.size := by omega
  have zi12 : (12 : Int) < s.size := by omega
  have hb12 := bit_at s 12 z12
  have hb12' : (((s[12]'z12).toNat : Int) != 49) = false := by rw [bne, hb12, h12]; rfl
  rw [h12] at hb12
  have c3a : ((s.size : Int) < 33) = False := eq_false (by omega)
  have c3b : decide ((s.size : Int) < 33) = false := decide_eq_false (by omega)
  have z32 : 32 < s.size := by omega
  have zi32 : (32 : Int) < s.size := by omega
  have hb32 := bit_at s 32 z32
  rw [hR] at hb32
  have p1 : ((32 : Int) ≤ (s.size : Int)) = True := eq_true (by omega)
  have p2 : (32 ≤ s.size) = True := eq_true (by omega)
  have hAl : A < 2048 := by rw [← hA]; exact num_lt _ 1 11
  have HNUM := hid (show num64 (bitsOf (s.extract 1 12)) = A by rw [← hA]; exact num_part s 1 11 (by decide))
  have q1 : ((12 : Int) ≤ (s.size : Int)) = True := eq_true (by omega)
  have q2 : (12 ≤ s.size) = True := eq_true (by omega)
  have e6 : IntKind.u32.wrap (A : Int) = A := by rw [IntKind.wrap_u32]; omega
  have hBl : B < 262144 := by rw [← hB]; exact num_lt _ 14 18
  have HNUB := hid (show num64 (bitsOf (s.extract 14 32)) = B by rw [← hB]; exact num_part s 14 18 (by decide))
  have HID := hid (id_join A B hAl hBl)
  have e7 : IntKind.u32.wrap (B : Int) = B := by rw [IntKind.wrap_u32]; omega
  have c4a : ((s.size : Int) < 39) = False := eq_false (by omega)
  have c4b : decide ((s.size : Int) < 39) = false := decide_eq_false (by omega)
  obtain ⟨m, hm⟩ : ∃ m, numN (((bitsOf s).drop 35).take 4) = m := ⟨_, rfl⟩
  have hml : m < 16 := by rw [← hm]; exact num_lt _ 35 4
  have HNU4 := hid (show num64 (bitsOf (s.extract 35 39)) = m by rw [← hm]; exact num_part s 35 4 (by decide))
  have r1 : ((39 : Int) ≤ (s.size : Int)) = True := eq_true (by omega)
  have r2 : (39 ≤ s.size) = True := eq_true (by omega)
  have b0 : 0 ≤ (m : Int) := Int.natCast_nonneg _
  have b1 : (m : Int) ≤ 15 := by omega
  have hM' : min m 8 = M := by rw [← hm]; exact hM
  have hite : (if 8 < (m : Int) then (8 : Int) else (m : Int)) = (M : Int) := by split <;> omega
  have hM8 : M ≤ 8 := by omega
  have b2 : IntKind.i64.wrap (M : Int) = M := by rw [IntKind.wrap_i64]; omega
  have b3 : IntKind.i64.wrap (8 * (M : Int)) = 8 * (M : Int) := by rw [IntKind.wrap_i64]; omega
  have b4 : IntKind.i64.wrap (39 + 8 * (M : Int)) = 39 + 8 * (M : Int) := by rw [IntKind.wrap_i64]; omega
  have c5a : ((s.size : Int) < 39 + 8 * (M : Int)) = True := eq_true (by omega)
  have c5b : decide ((s.size : Int) < 39 + 8 * (M : Int)) = true := decide_eq_true (by omega)
  clear h0 h13 hA hAl h14 h12 hB hBl hR hat hm hml hM' hM8 hM hlow
  have HITE := hid hite
  have hb0 := Blk.new w [.bool false, .int .u32 0, .bool false, .string ⟨#[]⟩] 24
  have HBL := (Below.refl w.heap.size w).alloc (Nat.le_refl _) (.cells #[.bool false, .int .u32 0, .bool false, .string ⟨#[]⟩] 24)
  go_enter Try.func60, Try.ntmps60
  go_wp2_with fail
  refine (rnum_calls _ _ (by rw [ByteArray.size_extract]; omega)).mono ?_
  rintro e w1 ⟨rfl, hb1⟩
  rw [HNUM.out]
  have hx := (hb0.below hb1)
  have HB1 := HBL.trans (hb1.mono HBL.size)
  have hr0 : w.heap.size < w1.heap.size := hx.lt
  clear hb0 hb1 HBL
  generalize hw0 : w.heap.size = r0 at *
  have HW0 := hid hw0
  clear hw0
  have hX := Blk.new w1 [.bool true, .int .u32 A, .bool false, .string ⟨#[]⟩] 24
  have hR0 := hx.alloc (.cells #[.bool true, .int .u32 A, .bool false, .string ⟨#[]⟩] 24)
  have HB2 := HB1.alloc (Nat.le_of_lt hr0) (.cells #[.bool true, .int .u32 A, .bool false, .string ⟨#[]⟩] 24)
  clear hx HB1
  go_wp2_with fail
  generalize hxx : w1.heap.size = x at *
  have hxr : r0 ≠ x := by omega
  have hrx : r0 ≤ x := by omega
  clear hr0 hxx
  generalize w1.alloc (.cells #[.bool true, .int .u32 A, .bool false, .string ⟨#[]⟩] 24) = W5 at *
  refine region_text (by kernel_rfl) (by kernel_rfl) (fun b _ W => (∃ v, Blk W x 24 [.bool true, .int .u32 v, .bool false, .string ⟨#[]⟩] ∧ (b 9 = false → v = A) ∧ (b 9 = true → v = ((A * 262144 + B : Nat) : Int))) ∧ Blk W r0 24 [.bool false, .int .u32 0, .bool false, .string ⟨#[]⟩] ∧ Below r0 w W) ⟨⟨_, hX.drew, fun _ => rfl, fun h => by simp at h⟩, hR0.drew, HB2.drew⟩ ?_
  refine t_pure (.pointer (some ⟨x, 1, none⟩)) (fun _ => rfl) (fun b γ W h => h) (fun b γ W h _ => by go_simp) ?_
  refine t_run (.int .u32 A) (fun _ => rfl) (fun b γ W h hb _ hf => ⟨W, ?_, h⟩) ?_
  · obtain ⟨⟨v, h1, h2, _⟩, _⟩ := h
    obtain rfl := h2 (hf 9 _ rfl (by decide))
    obtain ⟨_, x1, _, _⟩ := frame_res h1
    go_simp
  refine t_pure (.int .u32 (A * 262144)) (fun _ => rfl) (fun b γ W h => h) (fun b γ W h _ => by have e8 := HID.out.1; go_simp) ?_
  refine t_pure (.string s) (fun _ => rfl) (fun b γ W h => h) (fun b γ W h _ => by go_simp) ?_
  refine t_pure (.string (s.extract 14 32)) (fun _ => rfl) (fun b γ W h => h) (fun b γ W h _ => by go_simp) ?_
  refine t_call (.int .u64 B) (fun _ => rfl) (f := 69) (args := #[.string (s.extract 14 32)]) (fun b γ W h _ => by go_simp) (fun b γ W h _ => (rnum_calls _ W (by rw [ByteArray.size_extract]; omega)).mono ?_) ?_
  · rintro e w2 ⟨rfl, hbw⟩
    obtain ⟨⟨v, h1, h2⟩, h3, h4⟩ := h
    exact ⟨by rw [HNUB.out], ⟨v, h1.below hbw, h2⟩, h3.below hbw, h4.trans (hbw.mono (Nat.le_of_lt h3.lt))⟩
  refine t_pure (.int .u32 B) (fun _ => rfl) (fun b γ W h => h) (fun b γ W h _ => by go_simp) ?_
  refine t_pure (.int .u32 ((A * 262144 + B : Nat) : Int)) (fun _ => rfl) (fun b γ W h => h) (fun b γ W h _ => by have e8 := HID.out.2; go_simp) ?_
  refine t_pure (.pointer (some ⟨x, 1, none⟩)) (fun _ => rfl) (fun b γ W h => h) (fun b γ W h _ => by go_simp) ?_
  refine t_store (fun _ => rfl) (fun b γ W h hb hn hf => ?_) ?_
  · obtain ⟨⟨v, h1, h2, _⟩, h3, h4⟩ := h
    obtain ⟨_, x1, _, _⟩ := frame_res h1
    obtain ⟨_, f1, _, _⟩ := frame_free h1
    refine ⟨W.setCell ⟨x, 1, none⟩ (.int .u32 ((A * 262144 + B : Nat) : Int)), by go_simp, ⟨_, h1.set 1 _, fun h => (by simp [up] at h), fun _ => rfl⟩, h3.far (p := ⟨x, 1, none⟩) hxr _, h4.setCell (p := ⟨x, 1, none⟩) (by exact hrx) _⟩
  refine t_end ?_
  intro bq gq w6 hall hS
  obtain ⟨⟨v, h1, _, h2⟩, h3, h4⟩ := hS
  obtain rfl := h2 (hall 9 (by decide))
  clear hall h2 hX hR0 HB2
  simp only [Act.put, List.setIfInBounds_toArray, List.set_cons_zero, List.set_cons_succ]
  generalize hI : A * 262144 + B = I at *
  have HI := hid hI
  clear hI
  obtain ⟨x0, x1, x2, x3⟩ := frame_res h1
  obtain ⟨f0, f1, f2, f3⟩ := frame_free h1
  have hX := h1.set 2 (.bool false)
  simp only [List.set_cons_zero, List.set_cons_succ] at hX
  have hR0 := h3.far (p := ⟨x, 2, none⟩) hxr (.bool false)
  have HB2 := h4.setCell (p := ⟨x, 2, none⟩) (by exact hrx) (.bool false)
  clear h1 h3 h4
  have HX := hid hX
  have HR0 := hid hR0
  have HBB := hid HB2
  clear hX hR0 HB2
  go_wp2_with fail
  have hX := HX.out
  have hR0 := HR0.out
  have HB2 := HBB.out
  clear HX HR0 HBB x0 x1 x2 x3 f0 f1 f2 f3
  refine (rnum_calls _ _ (by rw [ByteArray.size_extract]; omega)).mono ?_
  rintro e w3 ⟨rfl, hb3⟩
  rw [HNU4.out]
  have HB3 := HB2.trans (hb3.mono (Nat.le_of_lt hR0.lt))
  have hX3 := hX.below hb3
  have hR3 := hR0.below hb3
  clear hb3 hX hR0 HB2
  obtain ⟨x0, x1, x2, x3⟩ := frame_res hX3
  obtain ⟨f0, f1, f2, f3⟩ := frame_free hX3
  obtain ⟨_, _, _, _⟩ := frame_res hR3
  obtain ⟨_, _, _, _⟩ := frame_free hR3
  have hz := frame_res (set4_blk hR3 false 0 false ⟨#[]⟩)
  have hbz := set4_below HB3 (Nat.le_refl _) false 0 false ⟨#[]⟩
  unfold set4 at hz hbz
  have HZ := hid hz
  have HBZ := hid hbz
  clear hz hbz
  clear hX3 hR3 HB3
  go_wp2_with fail
  obtain ⟨z0, z1, z2, z3⟩ := HZ.out
  exact bodyPost_ret (v := parseV false 0 false ⟨#[]⟩ 0 10) (by simp [results, Try.results60, go_sem, parseV, z0, z1, z2, z3]) rfl ⟨rfl, by rw [HW0.out]; exact HBZ.out⟩
set_option maxRecDepth 100000 in
set_option maxHeartbeats 3200000 in
theorem rparse_x_data (s : ByteArray) (w : World) (hs : s.size ≤ 140737488351232) (h14 : 33 ≤ s.size) (h0 : (bitsOf s).getD 0 false = false) (h13 : (bitsOf s).getD 13 false = true) (h12 : (bitsOf s).getD 12 false = true) (hat : 39 ≤ s.size) (hR : (bitsOf s).getD 32 false = false) (M : Nat) (hM : min (numN (((bitsOf s).drop 35).take 4)) 8 = M) (hlow : 39 + 8 * M ≤ s.size) (A : Nat) (hA : numN (((bitsOf s).drop 1).take 11) = A) (B : Nat) (hB : numN (((bitsOf s).drop 14).take 18) = B) (D : List UInt8) (hD : toB (((bitsOf s).drop 39).take (8 * M)) = D) :
    Calls Try.prog 60 #[.string s] w fun e w' => e = .returned (parseV true ((A * 262144 + B : Nat) : Int) false ⟨D.toArray⟩ ((39 + 8 * M : Nat) : Int) 0) ∧ Below w.heap.size w w' := by
  have z0' : 0 < s.size := by omega
  have hb0' := bit_at s 0 z0'
  rw [h0] at hb0'
  have c1a : ((s.size : Int) < 1) = False := eq_false (by omega)
  have c1b : decide ((s.size : Int) < 1) = false := decide_eq_false (by omega)
  have zi0 : (0 : Int) < s.size := by omega
  have c2a : ((s.size : Int) < 14) = False := eq_false (by omega)
  have c2b : decide ((s.size : Int) < 14) = false := decide_eq_false (by omega)
  have z13 : 13 < s.size := by omega
  have zi13 : (13 : Int) < s.size := by omega
  have hb13 := bit_at s 13 z13
  rw [h13] at hb13
  have z12 : 12 < s.size := by omega
  have zi12 : (12 : Int) < s.size := by omega
  have hb12 := bit_at s 12 z12
  have hb12' : (((s[12]'z12).toNat : Int) != 49) = false := by rw [bne, hb12, h12]; rfl
  rw [h12] at hb12
  have c3a : ((s.size : Int) < 33) = False := eq_false (by omega)
  have c3b : decide ((s.size : Int) < 33) = false := decide_eq_false (by omega)
  have z32 : 32 < s.size := by omega
  have zi32 : (32 : Int) < s.size := by omega
  have hb32 := bit_at s 32 z32
  rw [hR] at hb32
  have p1 : ((32 : Int) ≤ (s.size : Int)) = True := eq_true (by omega)
  have p2 : (32 ≤ s.size) = True := eq_true (by omega)
  have hAl : A < 2048 := by rw [← hA]; exact num_lt _ 1 11
  have HNUM := hid (show num64 (bitsOf (s.extract 1 12)) = A by rw [← hA]; exact num_part s 1 11 (by decide))
  have q1 : ((12 : Int) ≤ (s.size : Int)) = True := eq_true (by omega)
  have q2 : (12 ≤ s.size) = True := eq_true (by omega)
  have e6 : IntKind.u32.wrap (A : Int) = A := by rw [IntKind.wrap_u32]; omega
  have hBl : B < 262144 := by rw [← hB]; exact num_lt _ 14 18
  have HNUB := hid (show num64 (bitsOf (s.extract 14 32)) = B by rw [← hB]; exact num_part s 14 18 (by decide))
  have HID := hid (id_join A B hAl hBl)
  have e7 : IntKind.u32.wrap (B : Int) = B := by rw [IntKind.wrap_u32]; omega
  have c4a : ((s.size : Int) < 39) = False := eq_false (by omega)
  have c4b : decide ((s.size : Int) < 39) = false := decide_eq_false (by omega)
  obtain ⟨m, hm⟩ : ∃ m, numN (((bitsOf s).drop 35).take 4) = m := ⟨_, rfl⟩
  have hml : m < 16 := by rw [← hm]; exact num_lt _ 35 4
  have HNU4 := hid (show num64 (bitsOf (s.extract 35 39)) = m by rw [← hm]; exact num_part s 35 4 (by decide))
  have r1 : ((39 : Int) ≤ (s.size : Int)) = True := eq_true (by omega)
  have r2 : (39 ≤ s.size) = True := eq_true (by omega)
  have b0 : 0 ≤ (m : Int) := Int.natCast_nonneg _
  have b1 : (m : Int) ≤ 15 := by omega
  have hM' : min m 8 = M := by rw [← hm]; exact hM
  have hite : (if 8 < (m : Int) then (8 : Int) else (m : Int)) = (M : Int) := by split <;> omega
  have hM8 : M ≤ 8 := by omega
  have b2 : IntKind.i64.wrap (M : Int) = M := by rw [IntKind.wrap_i64]; omega
  have b3 : IntKind.i64.wrap (8 * (M : Int)) = 8 * (M : Int) := by rw [IntKind.wrap_i64]; omega
  have b4 : IntKind.i64.wrap (39 + 8 * (M : Int)) = 39 + 8 * (M : Int) := by rw [IntKind.wrap_i64]; omega
  have c5a : ((s.size : Int) < 39 + 8 * (M : Int)) = False := eq_false (by omega)
  have c5b : decide ((s.size : Int) < 39 + 8 * (M : Int)) = false := decide_eq_false (by omega)
  have d1 : ((39 + 8 * (M : Int)) ≤ (s.size : Int)) = True := eq_true (by omega)
  have d2 : (39 + 8 * M ≤ s.size) = True := eq_true (by omega)
  have d3 : ((39 : Int) ≤ (39 + 8 * (M : Int))) = True := eq_true (by omega)
  have d4 : (39 + 8 * (M : Int)).toNat = 39 + 8 * M := by omega
  have HBY := hid (show toB (bitsOf (s.extract 39 (39 + 8 * M))) = D by rw [← hD, bits_extract, Nat.add_sub_cancel_left])
  clear h0 h13 hA hAl h14 h12 hB hBl hR hat hm hml hM' hM8 hM hlow hD
  have HITE := hid hite
  have hb0 := Blk.new w [.bool false, .int .u32 0, .bool false, .string ⟨#[]⟩] 24
  have HBL := (Below.refl w.heap.size w).alloc (Nat.le_refl _) (.cells #[.bool false, .int .u32 0, .bool false, .string ⟨#[]⟩] 24)
  go_enter Try.func60, Try.ntmps60
  go_wp2_with fail
  refine (rnum_calls _ _ (by rw [ByteArray.size_extract]; omega)).mono ?_
  rintro e w1 ⟨rfl, hb1⟩
  rw [HNUM.out]
  have hx := (hb0.below hb1)
  have HB1 := HBL.trans (hb1.mono HBL.size)
  have hr0 : w.heap.size < w1.heap.size := hx.lt
  clear hb0 hb1 HBL
  generalize hw0 : w.heap.size = r0 at *
  have HW0 := hid hw0
  clear hw0
  have hX := Blk.new w1 [.bool true, .int .u32 A, .bool false, .string ⟨#[]⟩] 24
  have hR0 := hx.alloc (.cells #[.bool true, .int .u32 A, .bool false, .string ⟨#[]⟩] 24)
  have HB2 := HB1.alloc (Nat.le_of_lt hr0) (.cells #[.bool true, .int .u32 A, .bool false, .string ⟨#[]⟩] 24)
  clear hx HB1
  go_wp2_with fail
  generalize hxx : w1.heap.size = x at *
  have hxr : r0 ≠ x := by omega
  have hrx : r0 ≤ x := by omega
  clear hr0 hxx
  generalize w1.alloc (.cells #[.bool true, .int .u32 A, .bool false, .string ⟨#[]⟩] 24) = W5 at *
  refine region_text (by kernel_rfl) (by kernel_rfl) (fun b _ W => (∃ v, Blk W x 24 [.bool true, .int .u32 v, .bool false, .string ⟨#[]⟩] ∧ (b 9 = false → v = A) ∧ (b 9 = true → v = ((A * 262144 + B : Nat) : Int))) ∧ Blk W r0 24 [.bool false, .int .u32 0, .bool false, .string ⟨#[]⟩] ∧ Below r0 w W) ⟨⟨_, hX.drew, fun _ => rfl, fun h => by simp at h⟩, hR0.drew, HB2.drew⟩ ?_
  refine t_pure (.pointer (some ⟨x, 1, none⟩)) (fun _ => rfl) (fun b γ W h => h) (fun b γ W h _ => by go_simp) ?_
  refine t_run (.int .u32 A) (fun _ => rfl) (fun b γ W h hb _ hf => ⟨W, ?_, h⟩) ?_
  · obtain ⟨⟨v, h1, h2, _⟩, _⟩ := h
    obtain rfl := h2 (hf 9 _ rfl (by decide))
    obtain ⟨_, x1, _, _⟩ := frame_res h1
    go_simp
  refine t_pure (.int .u32 (A * 262144)) (fun _ => rfl) (fun b γ W h => h) (fun b γ W h _ => by have e8 := HID.out.1; go_simp) ?_
  refine t_pure (.string s) (fun _ => rfl) (fun b γ W h => h) (fun b γ W h _ => by go_simp) ?_
  refine t_pure (.string (s.extract 14 32)) (fun _ => rfl) (fun b γ W h => h) (fun b γ W h _ => by go_simp) ?_
  refine t_call (.int .u64 B) (fun _ => rfl) (f := 69) (args := #[.string (s.extract 14 32)]) (fun b γ W h _ => by go_simp) (fun b γ W h _ => (rnum_calls _ W (by rw [ByteArray.size_extract]; omega)).mono ?_) ?_
  · rintro e w2 ⟨rfl, hbw⟩
    obtain ⟨⟨v, h1, h2⟩, h3, h4⟩ := h
    exact ⟨by rw [HNUB.out], ⟨v, h1.below hbw, h2⟩, h3.below hbw, h4.trans (hbw.mono (Nat.le_of_lt h3.lt))⟩
  refine t_pure (.int .u32 B) (fun _ => rfl) (fun b γ W h => h) (fun b γ W h _ => by go_simp) ?_
  refine t_pure (.int .u32 ((A * 262144 + B : Nat) : Int)) (fun _ => rfl) (fun b γ W h => h) (fun b γ W h _ => by have e8 := HID.out.2; go_simp) ?_
  refine t_pure (.pointer (some ⟨x, 1, none⟩)) (fun _ => rfl) (fun b γ W h => h) (fun b γ W h _ => by go_simp) ?_
  refine t_store (fun _ => rfl) (fun b γ W h hb hn hf => ?_) ?_
  · obtain ⟨⟨v, h1, h2, _⟩, h3, h4⟩ := h
    obtain ⟨_, x1, _, _⟩ := frame_res h1
    obtain ⟨_, f1, _, _⟩ := frame_free h1
    refine ⟨W.setCell ⟨x, 1, none⟩ (.int .u32 ((A * 262144 + B : Nat) : Int)), by go_simp, ⟨_, h1.set 1 _, fun h => (by simp [up] at h), fun _ => rfl⟩, h3.far (p := ⟨x, 1, none⟩) hxr _, h4.setCell (p := ⟨x, 1, none⟩) (by exact hrx) _⟩
  refine t_end ?_
  intro bq gq w6 hall hS
  obtain ⟨⟨v, h1, _, h2⟩, h3, h4⟩ := hS
  obtain rfl := h2 (hall 9 (by decide))
  clear hall h2 hX hR0 HB2
  simp only [Act.put, List.setIfInBounds_toArray, List.set_cons_zero, List.set_cons_succ]
  generalize hI : A * 262144 + B = I at *
  have HI := hid hI
  clear hI
  obtain ⟨x0, x1, x2, x3⟩ := frame_res h1
  obtain ⟨f0, f1, f2, f3⟩ := frame_free h1
  have hX := h1.set 2 (.bool false)
  simp only [List.set_cons_zero, List.set_cons_succ] at hX
  have hR0 := h3.far (p := ⟨x, 2, none⟩) hxr (.bool false)
  have HB2 := h4.setCell (p := ⟨x, 2, none⟩) (by exact hrx) (.bool false)
  clear h1 h3 h4
  have HX := hid hX
  have HR0 := hid hR0
  have HBB := hid HB2
  clear hX hR0 HB2
  go_wp2_with fail
  have hX := HX.out
  have hR0 := HR0.out
  have HB2 := HBB.out
  clear HX HR0 HBB x0 x1 x2 x3 f0 f1 f2 f3
  refine (rnum_calls _ _ (by rw [ByteArray.size_extract]; omega)).mono ?_
  rintro e w3 ⟨rfl, hb3⟩
  rw [HNU4.out]
  have HB3 := HB2.trans (hb3.mono (Nat.le_of_lt hR0.lt))
  have hX3 := hX.below hb3
  have hR3 := hR0.below hb3
  clear hb3 hX hR0 HB2
  obtain ⟨x0, x1, x2, x3⟩ := frame_res hX3
  obtain ⟨f0, f1, f2, f3⟩ := frame_free hX3
  have HX := hid hX3
  have HR0 := hid hR3
  have HBB := hid HB3
  clear hX3 hR3 HB3
  go_wp2_with fail
  refine (rbytes_calls _ _ (by first | (rw [ByteArray.size_extract]; omega) | decide)).mono ?_
  rintro e w6 ⟨rfl, hb6⟩
  rw [HBY.out]
  have hX6 := HX.out.below hb6
  have hR6 := HR0.out.below hb6
  have hBW6 := HBB.out.trans (hb6.mono (Nat.le_of_lt HR0.out.lt))
  have hX7 := hX6.set 3 (.string ⟨D.toArray⟩)
  simp only [List.set_cons_zero, List.set_cons_succ] at hX7
  have hR7 := hR6.far (p := ⟨x, 3, none⟩) hxr (.string ⟨D.toArray⟩)
  have hBW7 := hBW6.setCell (p := ⟨x, 3, none⟩) (by exact hrx) (.string ⟨D.toArray⟩)
  clear x0 x1 x2 x3 f0 f1 f2 f3
  obtain ⟨u0, u1, u2, u3⟩ := frame_res hX6
  obtain ⟨v0, v1, v2, v3⟩ := frame_free hX6
  obtain ⟨s0, s1, s2, s3⟩ := frame_res hX7
  obtain ⟨t0, t1, t2, t3⟩ := frame_free hR7
  obtain ⟨r1', r2', r3', r4'⟩ := frame_res hR7
  have hz := frame_res (set4_blk hR7 true I false ⟨D.toArray⟩)
  have hbz := set4_below hBW7 (Nat.le_refl _) true I false ⟨D.toArray⟩
  unfold set4 at hz hbz
  have HZ := hid hz
  have HBZ := hid hbz
  clear hz hbz hb6 hX6 hR6 hBW6 hX7 hR7 hBW7 HX HR0 HBB
  go_wp2_with fail
  obtain ⟨z0, z1, z2, z3⟩ := HZ.out
  exact bodyPost_ret (v := parseV true I false ⟨D.toArray⟩ ((39 + 8 * M : Nat) : Int) 0) (by simp [results, Try.results60, go_sem, parseV, z0, z1, z2, z3]) rfl ⟨by rw [HI.out], by rw [HW0.out]; exact HBZ.out⟩
end Go.Proofs.Ytkdnldoebghclaa.FrameW

/- The walks of package ostinatoref3, continued: a frame read is the frame that the document tells. -/
namespace Go.Proofs.Ytkdnldoebghclaa.FrameW
set_option linter.unusedVariables false
set_option linter.unusedSimpArgs false
open Go Go.RowKit Go.Proofs.Ytkdnldoebghclaa.Lib Go.Proofs.Ytkdnldoebghclaa.Bits Go.Proofs.Ytkdnldoebghclaa.BitsW Go.Proofs.Ytkdnldoebghclaa.Frame

theorem pl_zero : ((false, 0, false, []) : Bool × Nat × Bool × List UInt8) = (false, 0, false, []) := rfl
theorem pl_one (l : List Bool) (h : 0 < l.length) (h0 : l.getD 0 false = true) : parseL l = ((false, 0, false, []), 0, 12) := by
  have hn : needL l = (0, 12) := by unfold needL; rw [if_pos ⟨h, h0⟩]
  unfold parseL; rw [hn]; simp
theorem pl_of (l : List Bool) (n : Nat) (hn : needL l = (n, 0)) (h : n = 0 ∨ l.length < n) : parseL l = ((false, 0, false, []), 0, 10) := by
  unfold parseL; rw [hn, if_neg (by simp), if_pos h]
theorem nl_short (l : List Bool) (h : l.length ≤ 13) (h0 : l.getD 0 false = false) : needL l = (0, 0) := by
  unfold needL; rw [if_neg (by rw [h0]; simp), if_pos h]
theorem nl_bad (l : List Bool) (h : 13 < l.length) (h0 : l.getD 0 false = false) (h13 : l.getD 13 false = true) (h12 : l.getD 12 false = false) : needL l = (0, 12) := by
  unfold needL; rw [if_neg (by rw [h0]; simp), if_neg (by omega), if_pos h13, if_neg (by rw [h12]; simp)]
theorem nl_x (l : List Bool) (h : 13 < l.length) (h0 : l.getD 0 false = false) (h13 : l.getD 13 false = true) (h12 : l.getD 12 false = true) :
    needL l = if l.length < 39 then (0, 0) else if l.getD 32 false = true then (39, 0) else (39 + 8 * min (numN ((l.drop 35).take 4)) 8, 0) := by
  unfold needL; rw [if_neg (by rw [h0]; simp), if_neg (by omega), if_pos h13, if_pos h12]
theorem nl_s (l : List Bool) (h : 13 < l.length) (h0 : l.getD 0 false = false) (h13 : l.getD 13 false = false) :
    needL l = if l.length < 19 then (0, 0) else if l.getD 12 false = true then (19, 0) else (19 + 8 * min (numN ((l.drop 15).take 4)) 8, 0) := by
  unfold needL; rw [if_neg (by rw [h0]; simp), if_neg (by omega), if_neg (by rw [h13]; simp)]
theorem pl_s (l : List Bool) (n : Nat) (hn : needL l = (n, 0)) (h1 : n ≠ 0) (h2 : n ≤ l.length) (h13 : l.getD 13 false = false) :
    parseL l = ((false, numN ((l.drop 1).take 11), l.getD 12 false, toB ((l.drop 19).take (n - 19))), n, 0) := by
  unfold parseL; rw [hn, if_neg (by simp), if_neg (by simp; omega), if_neg (by rw [h13]; simp)]
theorem pl_x (l : List Bool) (n : Nat) (hn : needL l = (n, 0)) (h1 : n ≠ 0) (h2 : n ≤ l.length) (h13 : l.getD 13 false = true) :
    parseL l = ((true, numN ((l.drop 1).take 11) * 262144 + numN ((l.drop 14).take 18), l.getD 32 false, toB ((l.drop 39).take (n - 39))), n, 0) := by
  unfold parseL; rw [hn, if_neg (by simp), if_neg (by simp; omega), if_pos h13]

theorem rparse_calls (s : ByteArray) (w : World) (hs : s.size ≤ 140737488351232) :
    Calls Try.prog 60 #[.string s] w fun e w' => e = .returned (parseV (parseL (bitsOf s)).1.1 (parseL (bitsOf s)).1.2.1 (parseL (bitsOf s)).1.2.2.1 ⟨(parseL (bitsOf s)).1.2.2.2.toArray⟩ (parseL (bitsOf s)).2.1 (parseL (bitsOf s)).2.2) ∧ Below w.heap.size w w' := by
  have hl := bitsOf_length s
  by_cases h1 : s.size < 1
  · have hn : bitsOf s = [] := List.eq_nil_of_length_eq_zero (by omega)
    rw [hn]
    exact rparse_none s w hs h1
  cases h0 : (bitsOf s).getD 0 false
  case true =>
    rw [pl_one _ (by omega) h0]
    exact rparse_one s w hs (by omega) h0
  case false =>
  by_cases h14 : s.size < 14
  · rw [pl_of _ 0 (nl_short _ (by omega) h0) (.inl rfl)]
    exact rparse_short s w hs (by omega) h14 h0
  cases h13 : (bitsOf s).getD 13 false
  case false =>
    have hn := nl_s _ (by omega) h0 h13
    by_cases h19 : s.size < 19
    · rw [if_pos (by omega)] at hn
      rw [pl_of _ 0 hn (.inl rfl)]
      exact rparse_s_a s w hs (by omega) h0 h13 h19 _ rfl
    rw [if_neg (by omega)] at hn
    cases h12 : (bitsOf s).getD 12 false
    case true =>
      rw [if_pos h12] at hn
      rw [pl_s _ 19 hn (by decide) (by omega) h13, h12, show toB (((bitsOf s).drop 19).take (19 - 19)) = [] by rw [Nat.sub_self, List.take_zero]; rfl]
      exact rparse_s_rtr s w hs (by omega) h0 h13 (by omega) h12 _ rfl
    case false =>
      rw [if_neg (by rw [h12]; simp)] at hn
      obtain ⟨M, hM⟩ : ∃ M, min (numN (((bitsOf s).drop 15).take 4)) 8 = M := ⟨_, rfl⟩
      rw [hM] at hn
      by_cases hlow : s.size < 19 + 8 * M
      · rw [pl_of _ _ hn (.inr (by omega))]
        exact rparse_s_low s w hs (by omega) h0 h13 (by omega) h12 M hM hlow
      · rw [pl_s _ _ hn (by omega) (by omega) h13, h12]
        exact rparse_s_data s w hs (by omega) h0 h13 (by omega) h12 M hM (by omega) _ rfl _ (by rw [Nat.add_sub_cancel_left])
  case true =>
    cases h12 : (bitsOf s).getD 12 false
    case false =>
      have hn := nl_bad _ (by omega) h0 h13 h12
      have : parseL (bitsOf s) = ((false, 0, false, []), 0, 12) := by unfold parseL; rw [hn]; simp
      rw [this]
      exact rparse_x_bad s w hs (by omega) h0 h13 h12
    case true =>
    have hn := nl_x _ (by omega) h0 h13 h12
    by_cases h33 : s.size < 33
    · rw [if_pos (by omega)] at hn
      rw [pl_of _ 0 hn (.inl rfl)]
      exact rparse_x_r5 s w hs (by omega) h0 h13 h12 h33
    by_cases h39 : s.size < 39
    · rw [if_pos (by omega)] at hn
      rw [pl_of _ 0 hn (.inl rfl)]
      exact rparse_x_a s w hs (by omega) h0 h13 h12 h39 _ rfl
    rw [if_neg (by omega)] at hn
    cases h32 : (bitsOf s).getD 32 false
    case true =>
      rw [if_pos h32] at hn
      rw [pl_x _ 39 hn (by decide) (by omega) h13, h32, show toB (((bitsOf s).drop 39).take (39 - 39)) = [] by rw [Nat.sub_self, List.take_zero]; rfl]
      exact rparse_x_rtr s w hs (by omega) h0 h13 h12 (by omega) h32 _ rfl _ rfl
    case false =>
      rw [if_neg (by rw [h32]; simp)] at hn
      obtain ⟨M, hM⟩ : ∃ M, min (numN (((bitsOf s).drop 35).take 4)) 8 = M := ⟨_, rfl⟩
      rw [hM] at hn
      by_cases hlow : s.size < 39 + 8 * M
      · rw [pl_of _ _ hn (.inr (by omega))]
        exact rparse_x_low s w hs (by omega) h0 h13 h12 (by omega) h32 M hM hlow
      · rw [pl_x _ _ hn (by omega) (by omega) h13, h32]
        exact rparse_x_data s w hs (by omega) h0 h13 h12 (by omega) h32 M hM (by omega) _ rfl _ rfl _ (by rw [Nat.add_sub_cancel_left])
end Go.Proofs.Ytkdnldoebghclaa.FrameW

/- Frames: package frame and package ostinatoref3, as total functions, in the form in which the printed texts ask for them. -/
namespace Go.Proofs.Ytkdnldoebghclaa.Plug
set_option linter.unusedVariables false
set_option linter.unusedSimpArgs false
open Go Go.RowKit Go.Proofs.Ytkdnldoebghclaa.Lib Go.Proofs.Ytkdnldoebghclaa.Bits Go.Proofs.Ytkdnldoebghclaa.BitsW Go.Proofs.Ytkdnldoebghclaa.Frame Go.Proofs.Ytkdnldoebghclaa.FrameW Go.Proofs.Ytkdnldoebghclaa.FrameEq Go.Proofs.YtkdnldoebghclaaW.PrintWords

def frame_Is.f (e : Bool) (i : Int) (r : Bool) (d : ByteArray) : Option Bool := some (okF e i r d)
theorem frame_Is.calls (e : Bool) (i : Int) (r : Bool) (d : ByteArray) (x : Bool) (w : World) (h : frame_Is.f e i r d = some x) : Calls Try.prog 29 #[.agg #[.bool e, .int .u32 i, .bool r, .string d]] w fun y w' => y = .returned (.bool x) ∧ Below w.heap.size w w' := by
  simp only [frame_Is.f, Option.some.injEq] at h; subst h
  exact frame_is e i r d w
def ostinatoref3_Is.f (e : Bool) (i : Int) (r : Bool) (d : ByteArray) : Option Bool := some (okF e i r d)
theorem ostinatoref3_Is.calls (e : Bool) (i : Int) (r : Bool) (d : ByteArray) (x : Bool) (w : World) (h : ostinatoref3_Is.f e i r d = some x) : Calls Try.prog 22 #[.agg #[.bool e, .int .u32 i, .bool r, .string d]] w fun y w' => y = .returned (.bool x) ∧ Below w.heap.size w w' := by
  simp only [ostinatoref3_Is.f, Option.some.injEq] at h; subst h
  exact ref_is e i r d w
def frame_Arb.f (e : Bool) (i : Int) (r : Bool) (d : ByteArray) : Option ByteArray := if 0 ≤ i ∧ i < 4294967296 then some (arbF e i r d) else none
theorem frame_Arb.calls (e : Bool) (i : Int) (r : Bool) (d : ByteArray) (x : ByteArray) (w : World) (h : frame_Arb.f e i r d = some x) : Calls Try.prog 43 #[.agg #[.bool e, .int .u32 i, .bool r, .string d]] w fun y w' => y = .returned (.string x) ∧ Below w.heap.size w w' := by
  unfold frame_Arb.f at h
  split at h
  · simp only [Option.some.injEq] at h; subst h
    exact QFr.frame_Arb.calls 1 e i r d _ w (arb_eq 1 (by decide) e i r d (by assumption))
  · cases h
def ostinatoref3_Arb.f (e : Bool) (i : Int) (r : Bool) (d : ByteArray) : Option ByteArray := if 0 ≤ i ∧ i < 4294967296 then some (arbF e i r d) else none
theorem ostinatoref3_Arb.calls (e : Bool) (i : Int) (r : Bool) (d : ByteArray) (x : ByteArray) (w : World) (h : ostinatoref3_Arb.f e i r d = some x) : Calls Try.prog 27 #[.agg #[.bool e, .int .u32 i, .bool r, .string d]] w fun y w' => y = .returned (.string x) ∧ Below w.heap.size w w' := by
  unfold ostinatoref3_Arb.f at h
  split at h
  · simp only [Option.some.injEq] at h; subst h
    exact QFr.ostinatoref3_Arb.calls e i r d _ w (rarb_eq e i r d (by assumption))
  · cases h
def frame_Body.f (e : Bool) (i : Int) (r : Bool) (d : ByteArray) : Option ByteArray := if 0 ≤ i ∧ i < 4294967296 then some (bodyF e i r d) else none
theorem frame_Body.calls (e : Bool) (i : Int) (r : Bool) (d : ByteArray) (x : ByteArray) (w : World) (h : frame_Body.f e i r d = some x) : Calls Try.prog 30 #[.agg #[.bool e, .int .u32 i, .bool r, .string d]] w fun y w' => y = .returned (.string x) ∧ Below w.heap.size w w' := by
  unfold frame_Body.f at h
  split at h
  · simp only [Option.some.injEq] at h; subst h
    exact QFr.frame_Body.calls 1 e i r d _ w (body_eq 1 (by decide) e i r d (by assumption))
  · cases h
def ostinatoref3_Body.f (e : Bool) (i : Int) (r : Bool) (d : ByteArray) : Option ByteArray := if 0 ≤ i ∧ i < 4294967296 then some (bodyF e i r d) else none
theorem ostinatoref3_Body.calls (e : Bool) (i : Int) (r : Bool) (d : ByteArray) (x : ByteArray) (w : World) (h : ostinatoref3_Body.f e i r d = some x) : Calls Try.prog 23 #[.agg #[.bool e, .int .u32 i, .bool r, .string d]] w fun y w' => y = .returned (.string x) ∧ Below w.heap.size w w' := by
  unfold ostinatoref3_Body.f at h
  split at h
  · simp only [Option.some.injEq] at h; subst h
    exact QFr.ostinatoref3_Body.calls e i r d _ w (rbody_eq e i r d (by assumption))
  · cases h
/-- What Parse gives, part by part. -/
def parseT (l : List Bool) : Bool × Int × Bool × ByteArray × Int × Int :=
  ((parseL l).1.1, ((parseL l).1.2.1 : Int), (parseL l).1.2.2.1, ⟨(parseL l).1.2.2.2.toArray⟩, ((parseL l).2.1 : Int), ((parseL l).2.2 : Int))
def frame_Parse.f (s : ByteArray) : Option (Bool × Int × Bool × ByteArray × Int × Int) := if s.size ≤ 140737488351232 then some (parseT (bitsOf s)) else none
theorem frame_Parse.calls (s : ByteArray) (x1 : Bool) (x2 : Int) (x3 : Bool) (x4 : ByteArray) (x5 x6 : Int) (w : World) (h : frame_Parse.f s = some (x1, x2, x3, x4, x5, x6)) :
    Calls Try.prog 56 #[.string s] w fun y w' => y = .returned (.tuple #[.agg #[.bool x1, .int .u32 x2, .bool x3, .string x4], .int .i64 x5, .int .i64 x6]) ∧ Below w.heap.size w w' := by
  unfold frame_Parse.f at h
  split at h
  · simp only [parseT, Option.some.injEq, Prod.mk.injEq] at h
    obtain ⟨rfl, rfl, rfl, rfl, rfl, rfl⟩ := h
    exact parse_calls s w (by assumption)
  · cases h
def ostinatoref3_Parse.f (s : ByteArray) : Option (Bool × Int × Bool × ByteArray × Int × Int) := if s.size ≤ 140737488351232 then some (parseT (bitsOf s)) else none
theorem ostinatoref3_Parse.calls (s : ByteArray) (x1 : Bool) (x2 : Int) (x3 : Bool) (x4 : ByteArray) (x5 x6 : Int) (w : World) (h : ostinatoref3_Parse.f s = some (x1, x2, x3, x4, x5, x6)) :
    Calls Try.prog 60 #[.string s] w fun y w' => y = .returned (.tuple #[.agg #[.bool x1, .int .u32 x2, .bool x3, .string x4], .int .i64 x5, .int .i64 x6]) ∧ Below w.heap.size w w' := by
  unfold ostinatoref3_Parse.f at h
  split at h
  · simp only [parseT, Option.some.injEq, Prod.mk.injEq] at h
    obtain ⟨rfl, rfl, rfl, rfl, rfl, rfl⟩ := h
    exact rparse_calls s w (by assumption)
  · cases h
end Go.Proofs.Ytkdnldoebghclaa.Plug

