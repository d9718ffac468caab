/- The order of frames, continued: texts of bytes in order; what frames' bits begin with. -/
import Derived.Test.YtpkpnaedacefaaaGreatFrameC
namespace Go.Proofs.YtpkpnaedacefaaaGreat.Frame
set_option linter.unusedVariables false
set_option linter.unusedSimpArgs false
open Go Go.Proofs.YtpkpnaedacefaaaGreat.Bits Go.Proofs.YtpkpnaedacefaaaGreat.BitsW Go.Proofs.YtpkpnaedacefaaaGreat.FrameW

theorem ofN_inj {a b w : Nat} (ha : a < 2 ^ w) (hb : b < 2 ^ w) (h : ofN a w = ofN b w) : a = b := by
  have := congrArg numN h
  rw [numN_ofN, numN_ofN, Nat.mod_eq_of_lt ha, Nat.mod_eq_of_lt hb] at this
  exact this
/-- Frames that may be have their own rows. -/
theorem arb_inj {e : Bool} {n : Nat} {r : Bool} {e' : Bool} {n' : Nat} {r' : Bool} (hn : n < if e then 536870912 else 2048) (hn' : n' < if e' then 536870912 else 2048) (h : arbL e n r = arbL e' n' r') : e = e' ∧ n = n' ∧ r = r' := by
  have hl := congrArg List.length h
  rw [arbL_length, arbL_length] at hl
  cases e <;> cases e' <;> simp at hl hn hn' ⊢
  · simp only [arbL, if_false, Bool.false_eq_true, List.cons.injEq, true_and] at h
    have h2 := List.append_inj h (by rw [ofN_length, ofN_length])
    simp only [List.cons.injEq, and_true] at h2
    exact ⟨ofN_inj (w := 11) (by omega) (by omega) h2.1, h2.2⟩
  · simp only [arbL, if_true, List.cons.injEq, true_and] at h
    have h2 := List.append_inj h (by rw [ofN_length, ofN_length])
    simp only [List.cons.injEq, true_and] at h2
    have h3 := List.append_inj h2.2 (by rw [ofN_length, ofN_length])
    simp only [List.cons.injEq, and_true] at h3
    have h4 : ofN n 29 = ofN n' 29 := by
      rw [show (29 : Nat) = 11 + 18 from rfl, ofN_cut n 11 18, ofN_cut n' 11 18]
      have e : (2 : Nat) ^ 18 = 262144 := rfl
      rw [e, h2.1, h3.1]
    exact ⟨ofN_inj (w := 29) (by omega) (by omega) h4, h3.2⟩
/-- What stands ahead of the number of a frame's bytes. -/
def preL (e : Bool) (n : Nat) (r : Bool) : List Bool := arbL e n r ++ (if e then [false, false] else [false])
def hdr (e : Bool) : Nat := if e then 39 else 19
theorem preL_length (e : Bool) (n : Nat) (r : Bool) : (preL e n r).length = hdr e - 4 := by
  unfold preL hdr
  rw [List.length_append, arbL_length]
  cases e <;> rfl
theorem body_pre (e : Bool) (n : Nat) (r : Bool) (d : List UInt8) : bodyL e n r d = preL e n r ++ (ofN d.length 4 ++ fromB d) := by
  unfold bodyL preL
  rw [List.append_assoc]
theorem pre_0 (e : Bool) (n : Nat) (r : Bool) (q : List Bool) : (preL e n r ++ q)[0]? = some false := by
  unfold preL arbL
  cases e <;> simp
theorem pre_12 (e : Bool) (n : Nat) (r : Bool) (q : List Bool) : (preL e n r ++ q)[12]? = some (if e then true else r) := by
  unfold preL arbL
  cases e <;> simp [List.getElem?_append, ofN_length]
theorem pre_13 (e : Bool) (n : Nat) (r : Bool) (q : List Bool) : (preL e n r ++ q)[13]? = some e := by
  unfold preL arbL
  cases e <;> simp [List.getElem?_append, ofN_length]
theorem pre_32 (n : Nat) (r : Bool) (q : List Bool) : (preL true n r ++ q)[32]? = some r := by
  unfold preL arbL
  simp [List.getElem?_append, ofN_length]
theorem take_getD (l : List Bool) (k i : Nat) (h : i < k) : (l.take k).getD i false = l.getD i false := by
  rw [List.getD_eq_getElem?_getD, List.getD_eq_getElem?_getD, List.getElem?_take_of_lt h]
theorem getD_of {l : List Bool} {i : Nat} {b : Bool} (h : l[i]? = some b) : l.getD i false = b := by
  rw [List.getD_eq_getElem?_getD, h]; rfl
theorem take_part (p q s : List Bool) (k : Nat) (h : p.length + q.length ≤ k) : (((p ++ (q ++ s)).take k).drop p.length).take q.length = q := by
  rw [List.drop_take, List.drop_left, List.take_take, Nat.min_eq_left (by omega), List.take_left]
/-- The needs of the first bits of a frame and what is behind it. -/
theorem need_take (e : Bool) (n : Nat) (r : Bool) (d : List UInt8) (more : List Bool) (hd : d.length ≤ 8) (hr : r = true → d = []) (k : Nat) (hk : k ≤ (bodyL e n r d ++ more).length) :
    needL ((bodyL e n r d ++ more).take k) = if k < hdr e then (0, 0) else ((bodyL e n r d).length, 0) := by
  have hL : (bodyL e n r d).length = hdr e + 8 * d.length := by rw [bodyL_length]; rfl
  have hlen : ((bodyL e n r d ++ more).take k).length = k := by rw [List.length_take]; omega
  rw [hL]
  have h0 := pre_0 e n r (ofN d.length 4 ++ fromB d ++ more)
  have h12 := pre_12 e n r (ofN d.length 4 ++ fromB d ++ more)
  have h13 := pre_13 e n r (ofN d.length 4 ++ fromB d ++ more)
  have hl : bodyL e n r d ++ more = preL e n r ++ (ofN d.length 4 ++ fromB d ++ more) := by rw [body_pre]; simp
  have hp := preL_length e n r
  have hnum : hdr e ≤ k → numN ((((bodyL e n r d ++ more).take k).drop (hdr e - 4)).take 4) = d.length := by
    intro hk2
    have hq : (ofN d.length 4).length = 4 := ofN_length _ _
    have := take_part (preL e n r) (ofN d.length 4) (fromB d ++ more) k (by rw [hp, hq]; unfold hdr at *; split at hk2 <;> simp_all <;> omega)
    rw [hp, hq] at this
    rw [hl, List.append_assoc, this, numN_ofN, Nat.mod_eq_of_lt (by omega)]
  generalize hT : (bodyL e n r d ++ more).take k = T at *
  have t0 : T.getD 0 false = false := by
    by_cases h : 0 < k
    · rw [← hT, take_getD _ _ _ h, hl, getD_of h0]
    · have : T = [] := List.eq_nil_of_length_eq_zero (by omega)
      rw [this]; rfl
  by_cases hk13 : k ≤ 13
  · rw [nl_short T (by omega) t0, if_pos (by unfold hdr; split <;> omega)]
  have t12 : T.getD 12 false = (if e then true else r) := by rw [← hT, take_getD _ _ _ (by omega), hl, getD_of h12]
  have t13 : T.getD 13 false = e := by rw [← hT, take_getD _ _ _ (by omega), hl, getD_of h13]
  cases e
  · rw [nl_s T (by omega) t0 t13, hlen]
    by_cases h19 : k < 19
    · rw [if_pos h19, if_pos (by exact h19)]
    · rw [if_neg h19, show (if k < hdr false then ((0, 0) : Nat × Nat) else (hdr false + 8 * d.length, 0)) = (hdr false + 8 * d.length, 0) from if_neg h19, t12]
      have hn := hnum (by unfold hdr; simp; omega)
      simp only [if_false, Bool.false_eq_true]
      cases r
      · rw [if_neg (by simp), show (T.drop 15).take 4 = (T.drop (hdr false - 4)).take 4 from rfl, hn, Nat.min_eq_left hd]; rfl
      · rw [if_pos rfl, hr rfl]; rfl
  · rw [nl_x T (by omega) t0 t13 t12, hlen]
    by_cases h39 : k < 39
    · rw [if_pos h39, if_pos (by exact h39)]
    · have h32 := pre_32 n r (ofN d.length 4 ++ fromB d ++ more)
      have t32 : T.getD 32 false = r := by rw [← hT, take_getD _ _ _ (by omega), hl, getD_of h32]
      rw [if_neg h39, show (if k < hdr true then ((0, 0) : Nat × Nat) else (hdr true + 8 * d.length, 0)) = (hdr true + 8 * d.length, 0) from if_neg h39, t32]
      have hn := hnum (by unfold hdr; simp; omega)
      cases r
      · rw [if_neg (by simp), show (T.drop 35).take 4 = (T.drop (hdr true - 4)).take 4 from rfl, hn, Nat.min_eq_left hd]; rfl
      · rw [if_pos rfl, hr rfl]; rfl
theorem toB_from (d : List UInt8) : toB (fromB d) = d := Facts.toB_fromB d
/-- A frame and whatever is behind it is read as that frame. -/
theorem parse_body (e : Bool) (n : Nat) (r : Bool) (d : List UInt8) (more : List Bool) (hn : n < if e then 536870912 else 2048) (hd : d.length ≤ 8) (hr : r = true → d = []) :
    parseL (bodyL e n r d ++ more) = ((e, n, r, d), (bodyL e n r d).length, 0) := by
  have hL : (bodyL e n r d).length = hdr e + 8 * d.length := by rw [bodyL_length]; rfl
  have hneed := need_take e n r d more hd hr (bodyL e n r d ++ more).length (Nat.le_refl _)
  rw [List.take_length, if_neg (by rw [List.length_append, hL]; omega)] at hneed
  have hl : bodyL e n r d ++ more = preL e n r ++ (ofN d.length 4 ++ fromB d ++ more) := by rw [body_pre]; simp
  have h13 : (bodyL e n r d ++ more).getD 13 false = e := by rw [hl, getD_of (pre_13 ..)]
  have hp := preL_length e n r
  have hdat : ((bodyL e n r d ++ more).drop (hdr e)).take ((bodyL e n r d).length - hdr e) = fromB d := by
    have e1 : bodyL e n r d ++ more = (preL e n r ++ ofN d.length 4) ++ (fromB d ++ more) := by rw [hl]; simp
    have e2 : (preL e n r ++ ofN d.length 4).length = hdr e := by rw [List.length_append, hp, ofN_length]; unfold hdr; split <;> rfl
    rw [e1, ← e2, List.drop_left, hL, e2, Nat.add_sub_cancel_left, List.take_append_of_le_length (by rw [fromB_length]; exact Nat.le_refl _), List.take_of_length_le (by rw [fromB_length]; exact Nat.le_refl _)]
  cases e
  · have hpl := FrameW.pl_s _ _ hneed (by rw [hL]; simp [hdr]) (by rw [List.length_append]; omega) h13
    rw [hpl]
    have h12 : (bodyL false n r d ++ more).getD 12 false = r := by rw [hl, getD_of (pre_12 ..)]; rfl
    have hid : numN (((bodyL false n r d ++ more).drop 1).take 11) = n := by
      have e1 : bodyL false n r d ++ more = [false] ++ (ofN n 11 ++ ([r, false, false] ++ (ofN d.length 4 ++ fromB d ++ more))) := by rw [hl]; simp [preL, arbL]
      rw [e1, show (1 : Nat) = [false].length from rfl, List.drop_left, List.take_append_of_le_length (by rw [ofN_length]; exact Nat.le_refl _), List.take_of_length_le (by rw [ofN_length]; exact Nat.le_refl _), numN_ofN]
      exact Nat.mod_eq_of_lt (by simpa using hn)
    rw [hid, h12, show (19 : Nat) = hdr false from rfl, hdat, toB_from]
  · have hpl := FrameW.pl_x _ _ hneed (by rw [hL]; simp [hdr]) (by rw [List.length_append]; omega) h13
    rw [hpl]
    have h32 : (bodyL true n r d ++ more).getD 32 false = r := by rw [hl, getD_of (pre_32 ..)]
    have e1 : bodyL true n r d ++ more = [false] ++ (ofN (n / 262144) 11 ++ ([true, true] ++ (ofN n 18 ++ ([r, false, false] ++ (ofN d.length 4 ++ fromB d ++ more))))) := by rw [hl]; simp [preL, arbL]
    have hid1 : numN (((bodyL true n r d ++ more).drop 1).take 11) = n / 262144 := by
      rw [e1, show (1 : Nat) = [false].length from rfl, List.drop_left, List.take_append_of_le_length (by rw [ofN_length]; exact Nat.le_refl _), List.take_of_length_le (by rw [ofN_length]; exact Nat.le_refl _), numN_ofN]
      exact Nat.mod_eq_of_lt (by simp at hn; omega)
    have hid2 : numN (((bodyL true n r d ++ more).drop 14).take 18) = n % 262144 := by
      have e2 : bodyL true n r d ++ more = ([false] ++ ofN (n / 262144) 11 ++ [true, true]) ++ (ofN n 18 ++ ([r, false, false] ++ (ofN d.length 4 ++ fromB d ++ more))) := by rw [e1]; simp
      have e3 : ([false] ++ ofN (n / 262144) 11 ++ [true, true]).length = 14 := by simp [ofN_length]
      rw [e2, ← e3, List.drop_left, List.take_append_of_le_length (by rw [ofN_length]; exact Nat.le_refl _), List.take_of_length_le (by rw [ofN_length]; exact Nat.le_refl _), numN_ofN]
    rw [hid1, hid2, h32, show (39 : Nat) = hdr true from rfl, hdat, toB_from]
    congr 2
    have : n / 262144 * 262144 + n % 262144 = n := by omega
    rw [this]
/-- A frame that is cut off is too short. -/
theorem parse_cut (e : Bool) (n : Nat) (r : Bool) (d : List UInt8) (hd : d.length ≤ 8) (hr : r = true → d = []) (k : Nat) (hk : k < (bodyL e n r d).length) :
    parseL ((bodyL e n r d).take k) = ((false, 0, false, []), 0, 10) := by
  have hneed := need_take e n r d [] hd hr k (by simp; omega)
  rw [List.append_nil] at hneed
  by_cases h : k < hdr e
  · rw [if_pos h] at hneed
    exact FrameW.pl_of _ 0 hneed (.inl rfl)
  · rw [if_neg h] at hneed
    exact FrameW.pl_of _ _ hneed (.inr (by rw [List.length_take]; omega))
end Go.Proofs.YtpkpnaedacefaaaGreat.Frame
