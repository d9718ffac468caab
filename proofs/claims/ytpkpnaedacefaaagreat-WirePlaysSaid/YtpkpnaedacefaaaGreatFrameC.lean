/- Frames' bits, in plain Lean; Is, Arb, Body walked. -/
import Derived.Test.YtpkpnaedacefaaaGreatFrameA
namespace Go.Proofs.YtpkpnaedacefaaaGreat.Frame
set_option linter.unusedVariables false
set_option linter.unusedSimpArgs false
open Go Go.Proofs.YtpkpnaedacefaaaGreat.Bits Go.Proofs.YtpkpnaedacefaaaGreat.BitsW

/-- May a frame be? -/
def okF (e : Bool) (i : Int) (r : Bool) (d : ByteArray) : Bool :=
  (if e then decide (i < 536870912) else decide (i < 2048)) && decide (d.size ≤ 8) && !(r && d.size != 0)
/-- What frames are held against one another by. -/
def arbL (e : Bool) (n : Nat) (r : Bool) : List Bool :=
  if e then false :: (ofN (n / 262144) 11 ++ (true :: true :: (ofN n 18 ++ [r]))) else false :: (ofN n 11 ++ [r, false])
/-- A frame's bits up to its sum. -/
def bodyL (e : Bool) (n : Nat) (r : Bool) (d : List UInt8) : List Bool :=
  arbL e n r ++ ((if e then [false, false] else [false]) ++ (ofN d.length 4 ++ fromB d))
def arbF (e : Bool) (i : Int) (r : Bool) (d : ByteArray) : ByteArray := if okF e i r d then B (arbL e i.toNat r) else ⟨#[]⟩
def bodyF (e : Bool) (i : Int) (r : Bool) (d : ByteArray) : ByteArray := if okF e i r d then B (bodyL e i.toNat r d.data.toList) else ⟨#[]⟩
/-- A frame as text. -/
def textL (e : Bool) (n : Nat) (r : Bool) (d : List UInt8) : List UInt8 :=
  hexL n (if e then 8 else 3) ++ (35 :: (if r then [82] else d.flatMap (fun c => hexL c.toNat 2)))
def textF (e : Bool) (i : Int) (r : Bool) (d : ByteArray) : ByteArray := if okF e i r d then ⟨(textL e i.toNat r d.data.toList).toArray⟩ else ⟨#[]⟩
/-- Which of two rows wins: 0 before 1. -/
def cmpL : List Bool → List Bool → Int
  | a :: l, b :: m => if a = b then cmpL l m else if a then 1 else -1
  | _, _ => 0
theorem arbL_length (e : Bool) (n : Nat) (r : Bool) : (arbL e n r).length = if e then 33 else 14 := by
  unfold arbL
  cases e <;> simp [ofN_length]
theorem bodyL_length (e : Bool) (n : Nat) (r : Bool) (d : List UInt8) : (bodyL e n r d).length = (if e then 39 else 19) + 8 * d.length := by
  unfold bodyL
  cases e <;> simp [arbL_length, ofN_length, fromB_length] <;> omega
theorem cmpL_append : ∀ (a b s u : List Bool), a.length = b.length → (cmpL a b ≠ 0 → cmpL (a ++ s) (b ++ u) = cmpL a b) ∧ (cmpL a b = 0 → cmpL (a ++ s) (b ++ u) = cmpL s u)
  | [], [], s, u, _ => by simp [cmpL]
  | x :: l, y :: m, s, u, h => by
    have ih := cmpL_append l m s u (by simpa using h)
    simp only [List.cons_append, cmpL]
    by_cases hxy : x = y
    · simp only [if_pos hxy]; exact ih
    · simp only [if_neg hxy]
      cases x <;> simp
  | [], _ :: _, _, _, h => by simp at h
  | _ :: _, [], _, _, h => by simp at h
theorem cmpL_zero : ∀ (a b : List Bool), a.length = b.length → (cmpL a b = 0 ↔ a = b)
  | [], [], _ => by simp [cmpL]
  | x :: l, y :: m, h => by
    have ih := cmpL_zero l m (by simpa using h)
    simp only [cmpL, List.cons.injEq]
    by_cases hxy : x = y
    · rw [if_pos hxy, ih]; simp [hxy]
    · rw [if_neg hxy]
      cases x <;> simp [hxy] <;> (intro h; simp_all)
  | [], _ :: _, h => by simp at h
  | _ :: _, [], h => by simp at h
theorem cmpL_refl (a : List Bool) : cmpL a a = 0 := (cmpL_zero a a rfl).2 rfl
theorem cmpL_swap : ∀ (a b : List Bool), cmpL b a = - cmpL a b
  | [], [] => rfl
  | [], _ :: _ => rfl
  | _ :: _, [] => rfl
  | x :: l, y :: m => by
    have ih := cmpL_swap l m
    simp only [cmpL]
    by_cases hxy : x = y
    · rw [if_pos hxy, if_pos hxy.symm, ih]
    · rw [if_neg hxy, if_neg (fun h => hxy h.symm)]
      cases x <;> cases y <;> simp_all
theorem cmpL_vals : ∀ (a b : List Bool), cmpL a b = 0 ∨ cmpL a b = 1 ∨ cmpL a b = -1
  | [], [] => .inl rfl
  | [], _ :: _ => .inl rfl
  | _ :: _, [] => .inl rfl
  | x :: l, y :: m => by
    have ih := cmpL_vals l m
    simp only [cmpL]
    split
    · exact ih
    · split <;> simp
/-- Comparing two texts of bits: of one length, or not alike where both have bits. -/
theorem compare_bits : ∀ (a b : List Bool), (a.length = b.length ∨ cmpL a b ≠ 0) → Go.Lib.compareBytes (a.map sg) (b.map sg) = cmpL a b
  | [], [], _ => rfl
  | x :: l, y :: m, h => by
    rw [List.map_cons, List.map_cons, Go.Lib.compareBytes, cmpL]
    by_cases hxy : x = y
    · subst hxy
      have ih := compare_bits l m (by rcases h with h | h; exact .inl (by simpa using h); exact .inr (by simpa [cmpL] using h))
      rw [ih]
      have : ¬ (sg x < sg x) := by cases x <;> decide
      simp [this]
    · cases x <;> cases y <;> simp_all [sg]
  | [], _ :: _, h => by simp [cmpL] at h
  | _ :: _, [], h => by simp [cmpL] at h
/-- Two frames' rows are of one length, or not alike where both have bits. -/
theorem arb_apart (e : Bool) (n : Nat) (r : Bool) (e' : Bool) (n' : Nat) (r' : Bool) : (arbL e n r).length = (arbL e' n' r').length ∨ cmpL (arbL e n r) (arbL e' n' r') ≠ 0 := by
  by_cases he : e = e'
  · subst he; exact .inl (by rw [arbL_length, arbL_length])
  · right
    cases e <;> cases e' <;> first | exact absurd rfl he | skip
    · unfold arbL
      simp only [if_true, if_false, Bool.false_eq_true, cmpL]
      obtain ⟨h1, h2⟩ := cmpL_append (ofN n 11) (ofN (n' / 262144) 11) [r, false] (true :: true :: (ofN n' 18 ++ [r'])) (by rw [ofN_length, ofN_length])
      by_cases h : cmpL (ofN n 11) (ofN (n' / 262144) 11) = 0
      · rw [h2 h]; cases r <;> simp [cmpL]
      · rw [h1 h]; exact h
    · unfold arbL
      simp only [if_true, if_false, Bool.false_eq_true, cmpL]
      obtain ⟨h1, h2⟩ := cmpL_append (ofN (n / 262144) 11) (ofN n' 11) (true :: true :: (ofN n 18 ++ [r])) [r', false] (by rw [ofN_length, ofN_length])
      by_cases h : cmpL (ofN (n / 262144) 11) (ofN n' 11) = 0
      · rw [h2 h]; cases r' <;> simp [cmpL]
      · rw [h1 h]; exact h
end Go.Proofs.YtpkpnaedacefaaaGreat.Frame

namespace Go.Proofs.YtpkpnaedacefaaaGreat.FrameEq
set_option linter.unusedVariables false
set_option linter.unusedSimpArgs false
open Go Go.RowKit Go.Proofs.YtpkpnaedacefaaaGreat.Lib Go.Proofs.YtpkpnaedacefaaaGreat.Bits Go.Proofs.YtpkpnaedacefaaaGreat.BitsW Go.Proofs.YtpkpnaedacefaaaGreat.Frame
theorem okF_ext (i : Int) (r : Bool) (d : ByteArray) (h : okF true i r d = true) : i < 536870912 ∧ d.size ≤ 8 := by
  unfold okF at h
  simp at h
  exact ⟨h.1.1, h.1.2⟩
theorem okF_std (i : Int) (r : Bool) (d : ByteArray) (h : okF false i r d = true) : i < 2048 ∧ d.size ≤ 8 := by
  unfold okF at h
  simp at h
  exact ⟨h.1.1, h.1.2⟩
theorem okF_size (e : Bool) (i : Int) (r : Bool) (d : ByteArray) (h : okF e i r d = true) : d.size ≤ 8 := by
  cases e
  · exact (okF_std i r d h).2
  · exact (okF_ext i r d h).2
theorem arbF_ok {e : Bool} {i : Int} {r : Bool} {d : ByteArray} (h : okF e i r d = true) : arbF e i r d = B (arbL e i.toNat r) := by unfold arbF; rw [if_pos h]
theorem bodyF_ok {e : Bool} {i : Int} {r : Bool} {d : ByteArray} (h : okF e i r d = true) : bodyF e i r d = B (bodyL e i.toNat r d.data.toList) := by unfold bodyF; rw [if_pos h]
theorem list_nil (d : ByteArray) : d.toList = [] ↔ d.size = 0 := by
  rw [Go.ByteArray.toList_eq]
  have := size_list d
  constructor
  · intro h; rw [h] at this; simpa using this.symm
  · intro h; exact List.eq_nil_of_length_eq_zero (by omega)
end Go.Proofs.YtpkpnaedacefaaaGreat.FrameEq

namespace Go.Proofs.YtpkpnaedacefaaaGreat.FrameW
set_option linter.unusedVariables false
set_option linter.unusedSimpArgs false
open Go Go.RowKit Go.Proofs.YtpkpnaedacefaaaGreat.Lib Go.Proofs.YtpkpnaedacefaaaGreat.Bits Go.Proofs.YtpkpnaedacefaaaGreat.BitsW Go.Proofs.YtpkpnaedacefaaaGreat.Frame Go.Proofs.YtpkpnaedacefaaaGreat.FrameEq Go.Proofs.YtpkpnaedacefaaaGreat.PrintMore
theorem pl_zero : ((false, 0, false, []) : Bool × Nat × Bool × List UInt8) = (false, 0, false, []) := rfl
theorem pl_one (l : List Bool) (h : 0 < l.length) (h0 : l.getD 0 false = true) : parseL l = ((false, 0, false, []), 0, 12) := by
  have hn : needL l = (0, 12) := by unfold needL; rw [if_pos ⟨h, h0⟩]
  unfold parseL; rw [hn]; simp
theorem pl_of (l : List Bool) (n : Nat) (hn : needL l = (n, 0)) (h : n = 0 ∨ l.length < n) : parseL l = ((false, 0, false, []), 0, 10) := by
  unfold parseL; rw [hn, if_neg (by simp), if_pos h]
theorem nl_short (l : List Bool) (h : l.length ≤ 13) (h0 : l.getD 0 false = false) : needL l = (0, 0) := by
  unfold needL; rw [if_neg (by rw [h0]; simp), if_pos h]
theorem nl_bad (l : List Bool) (h : 13 < l.length) (h0 : l.getD 0 false = false) (h13 : l.getD 13 false = true) (h12 : l.getD 12 false = false) : needL l = (0, 12) := by
  unfold needL; rw [if_neg (by rw [h0]; simp), if_neg (by omega), if_pos h13, if_neg (by rw [h12]; simp)]
theorem nl_x (l : List Bool) (h : 13 < l.length) (h0 : l.getD 0 false = false) (h13 : l.getD 13 false = true) (h12 : l.getD 12 false = true) :
    needL l = if l.length < 39 then (0, 0) else if l.getD 32 false = true then (39, 0) else (39 + 8 * min (numN ((l.drop 35).take 4)) 8, 0) := by
  unfold needL; rw [if_neg (by rw [h0]; simp), if_neg (by omega), if_pos h13, if_pos h12]
theorem nl_s (l : List Bool) (h : 13 < l.length) (h0 : l.getD 0 false = false) (h13 : l.getD 13 false = false) :
    needL l = if l.length < 19 then (0, 0) else if l.getD 12 false = true then (19, 0) else (19 + 8 * min (numN ((l.drop 15).take 4)) 8, 0) := by
  unfold needL; rw [if_neg (by rw [h0]; simp), if_neg (by omega), if_neg (by rw [h13]; simp)]
theorem pl_s (l : List Bool) (n : Nat) (hn : needL l = (n, 0)) (h1 : n ≠ 0) (h2 : n ≤ l.length) (h13 : l.getD 13 false = false) :
    parseL l = ((false, numN ((l.drop 1).take 11), l.getD 12 false, toB ((l.drop 19).take (n - 19))), n, 0) := by
  unfold parseL; rw [hn, if_neg (by simp), if_neg (by simp; omega), if_neg (by rw [h13]; simp)]
theorem pl_x (l : List Bool) (n : Nat) (hn : needL l = (n, 0)) (h1 : n ≠ 0) (h2 : n ≤ l.length) (h13 : l.getD 13 false = true) :
    parseL l = ((true, numN ((l.drop 1).take 11) * 262144 + numN ((l.drop 14).take 18), l.getD 32 false, toB ((l.drop 39).take (n - 39))), n, 0) := by
  unfold parseL; rw [hn, if_neg (by simp), if_neg (by simp; omega), if_pos h13]

theorem okF_val (e : Bool) (i : Int) (r : Bool) (d : ByteArray) : okF e i r d = if (r && d.size != 0) || decide (8 < d.size) then false else if e then decide (i < 536870912) else decide (i < 2048) := by
  unfold okF
  by_cases h8 : d.size ≤ 8
  · by_cases h0 : d.size = 0 <;> cases r <;> cases e <;> simp [h8, h0, Nat.not_lt.2 h8]
  · have : 8 < d.size := by omega
    cases r <;> cases e <;> simp [h8, this]
set_option maxRecDepth 100000 in
set_option maxHeartbeats 3200000 in
theorem frame_is (e : Bool) (i : Int) (r : Bool) (d : ByteArray) (w : World) :
    Calls Tryz.prog 34 #[.agg #[.bool e, .int .u32 i, .bool r, .string d]] w fun x w' => x = .returned (.bool (okF e i r d)) ∧ Below w.heap.size w w' := by
  have hB := (Below.refl w.heap.size w).alloc (Nat.le_refl _) (.cells #[.bool e, .int .u32 i, .bool r, .string d] 35)
  have hv := okF_val e i r d
  have HV := hid hv
  clear hv
  generalize okF e i r d = R at *
  by_cases h0 : d.size = 0
  · obtain rfl : d = ⟨#[]⟩ := by
      have := size_list d
      apply ByteArray.ext
      apply Array.ext'
      exact List.eq_nil_of_length_eq_zero (by omega)
    cases r <;> cases e
    all_goals
      go_enter Tryz.func34, Tryz.ntmps34
      go_wp2_with fail
      go_ret
      rw [HV.out]
      exact ⟨rfl, hB⟩
  · have hn : d.toList ≠ [] := fun x => h0 ((list_nil d).1 x)
    have u1 : (d.toList != []) = true := bne_iff_ne.2 hn
    have u2 : (d.toList == []) = false := beq_eq_false_iff_ne.2 hn
    have u3 : (d.toList = []) = False := eq_false hn
    have hz : (d.size != 0) = true := bne_iff_ne.2 h0
    by_cases h8 : 8 < d.size
    · have v1 : ((8 : Int) < (d.size : Int)) = True := eq_true (by omega)
      have v2 : (8 < d.size) = True := eq_true h8
      have hR := HV.out
      simp only [hz, decide_eq_true h8, Bool.and_true, Bool.or_true, if_true] at hR
      have HR := hid hR
      clear hR HV
      cases r <;> cases e
      all_goals
        go_enter Tryz.func34, Tryz.ntmps34
        go_wp2_with fail
        go_ret
        rw [HR.out]
        exact ⟨rfl, hB⟩
    · have v1 : ((8 : Int) < (d.size : Int)) = False := eq_false (by omega)
      have v2 : (8 < d.size) = False := eq_false h8
      have hR := HV.out
      simp only [hz, decide_eq_false h8, Bool.and_true, Bool.or_false] at hR
      have HR := hid hR
      clear hR HV
      cases r <;> cases e
      all_goals
        go_enter Tryz.func34, Tryz.ntmps34
        go_wp2_with fail
        go_ret
        rw [HR.out]
        exact ⟨rfl, hB⟩
theorem frame_sign (b : Bool) (w : World) : Calls Tryz.prog 88 #[.bool b] w fun x w' => x = .returned (.string (B [b])) ∧ w = w' := by
  cases b
  all_goals
    go_enter Tryz.func88, Tryz.ntmps88
    go_wp2_with fail
    go_ret
    exact ⟨rfl, rfl⟩
theorem of_b (i : Int) (W : Nat) (hi : 0 ≤ i ∧ i < 4294967296) (hW : W ≤ 64) (w : World) :
    Calls Tryz.prog 84 #[.int .u64 i, .int .i64 (W : Int)] w fun x w' => x = .returned (.string (B (ofN i.toNat W))) ∧ Below w.heap.size w w' := by
  have h := of_calls i.toNat (W : Int) w (by omega)
  rw [show ((i.toNat : Nat) : Int) = i by omega, show wid (W : Int) = W by unfold wid; omega] at h
  exact h
set_option maxRecDepth 100000 in
set_option maxHeartbeats 6400000 in
theorem frame_arb (e : Bool) (i : Int) (r : Bool) (d : ByteArray) (w : World) (hi : 0 ≤ i ∧ i < 4294967296) :
    Calls Tryz.prog 57 #[.agg #[.bool e, .int .u32 i, .bool r, .string d]] w fun x w' => x = .returned (.string (arbF e i r d)) ∧ Below w.heap.size w w' := by
  have hF := Blk.new w [.bool e, .int .u32 i, .bool r, .string d] 35
  have hB := (Below.refl w.heap.size w).alloc (Nat.le_refl _) (.cells #[.bool e, .int .u32 i, .bool r, .string d] 35)
  obtain ⟨x0, x1, x2, x3⟩ := frame_res hF
  have HIS := hid (fun (W : World) => frame_is e i r d W)
  have HSG := hid (fun (W : World) => frame_sign r W)
  have HA := hid (show ∃ X, X = arbF e i r d from ⟨_, rfl⟩)
  obtain ⟨X, hX⟩ := HA.out
  rw [← hX]
  unfold arbF at hX
  cases hk : okF e i r d
  · rw [hk] at HIS
    rw [hk, if_neg (by simp)] at hX
    have HX := hid hX
    clear hX
    go_enter Tryz.func57, Tryz.ntmps57
    go_wp2_with fail
    refine (HIS.out _).mono ?_
    rintro y w1 ⟨rfl, hb⟩
    have hB := hB.trans (hb.mono hB.size)
    go_wp2_with fail
    go_ret
    rw [HX.out]
    exact ⟨rfl, hB⟩
  · rw [hk] at HIS
    rw [hk, if_pos rfl] at hX
    have HX := hid hX
    clear hX
    have uw : IntKind.u64.wrap i = i := by have := wrap_u64 i.toNat (by omega); rwa [show ((i.toNat : Nat) : Int) = i by omega] at this
    have ui0 : 0 ≤ i := hi.1
    have ui1 : i < 4294967296 := hi.2
    cases e
    · have H11 := hid (fun (W : World) => of_b i 11 hi (by decide) W)
      have s11 : (B (ofN i.toNat 11)).size = 11 := by rw [B_size, ofN_length]
      have sR : (B [r]).size = 1 := by rw [B_size]; rfl
      have HE := hid (show B (arbL false i.toNat r) = ⟨#[48]⟩ ++ B (ofN i.toNat 11) ++ B [r] ++ ⟨#[48]⟩ from by
        rw [show (⟨#[48]⟩ : ByteArray) = B [false] from rfl, B_append, B_append, B_append]; simp [arbL])
      generalize B (ofN i.toNat 11) = O at *
      generalize B [r] = RR at *
      go_enter Tryz.func57, Tryz.ntmps57
      go_wp2_with fail
      refine (HIS.out _).mono ?_
      rintro y w1 ⟨rfl, hb⟩
      have hB := hB.trans (hb.mono hB.size)
      have hF := hF.below hb
      obtain ⟨x0, x1, x2, x3⟩ := frame_res hF
      clear hb
      go_wp2_with fail
      refine region_text (by kernel_rfl) (by kernel_rfl) (fun _ _ W => Blk W w.heap.size 35 [.bool false, .int .u32 i, .bool r, .string d] ∧ Below w.heap.size w W) ⟨hF.drew, hB.drew⟩ ?_
      clear hF hB x0 x1 x2 x3
      iterate 11 ((try simp only [Act.put, List.setIfInBounds_toArray, List.set_cons_zero, List.set_cons_succ]); first
        | (refine t_skip (fun _ => rfl) (fun b γ W h => h) ?_)
        | (refine t_call (.string O) (fun _ => rfl) (f := 84) (args := #[.int .u64 i, .int .i64 11]) ?_ (fun b γ W h _ => (H11.out W).mono (fun e w2 h2 => ⟨h2.1, h.1.below h2.2, h.2.trans (h2.2.mono h.2.size)⟩)) ?_; · (intro b γ W h _; go_simp; done))
        | (refine t_call (.string RR) (fun _ => rfl) (f := 88) (args := #[.bool r]) ?_ (fun b γ W h _ => (HSG.out W).mono (fun e w2 h2 => ⟨h2.1, by rw [← h2.2]; exact h⟩)) ?_; · (intro b γ W h _; go_simp; done))
        | (refine t_pure ?_ (fun _ => rfl) (fun b γ W h => h) (fun b γ W h _ => ?_) ?_; rotate_left; · (obtain ⟨x0, x1, x2, x3⟩ := frame_res h.1; go_simp; rfl)))
      refine t_end ?_
      intro bq gq w5 hall HB
      simp only [Act.put, List.setIfInBounds_toArray, List.set_cons_zero, List.set_cons_succ]
      go_wp2_with fail
      go_ret
      rw [HX.out, HE.out]
      exact ⟨rfl, HB.2⟩
    · have H11 := hid (fun (W : World) => of_b (i / 262144) 11 (by omega) (by decide) W)
      have H18 := hid (fun (W : World) => of_b i 18 hi (by decide) W)
      have s11 : (B (ofN (i / 262144).toNat 11)).size = 11 := by rw [B_size, ofN_length]
      have s18 : (B (ofN i.toNat 18)).size = 18 := by rw [B_size, ofN_length]
      have sR : (B [r]).size = 1 := by rw [B_size]; rfl
      have ud : (i / 262144).toNat = i.toNat / 262144 := by omega
      have uw2 : IntKind.u64.wrap (i / 262144) = i / 262144 := by have := wrap_u64 (i / 262144).toNat (by omega); rwa [show (((i / 262144).toNat : Nat) : Int) = i / 262144 by omega] at this
      have HE := hid (show B (arbL true i.toNat r) = ⟨#[48]⟩ ++ B (ofN (i / 262144).toNat 11) ++ ⟨#[49]⟩ ++ ⟨#[49]⟩ ++ B (ofN i.toNat 18) ++ B [r] from by
        rw [show (⟨#[48]⟩ : ByteArray) = B [false] from rfl, show (⟨#[49]⟩ : ByteArray) = B [true] from rfl]; simp only [B_append]; rw [ud]; simp [arbL])
      clear ud
      generalize B (ofN (i / 262144).toNat 11) = O at *
      generalize B (ofN i.toNat 18) = O2 at *
      generalize B [r] = RR at *
      go_enter Tryz.func57, Tryz.ntmps57
      go_wp2_with fail
      refine (HIS.out _).mono ?_
      rintro y w1 ⟨rfl, hb⟩
      have hB := hB.trans (hb.mono hB.size)
      have hF := hF.below hb
      obtain ⟨x0, x1, x2, x3⟩ := frame_res hF
      clear hb
      go_wp2_with fail
      refine region_text (by kernel_rfl) (by kernel_rfl) (fun _ _ W => Blk W w.heap.size 35 [.bool true, .int .u32 i, .bool r, .string d] ∧ Below w.heap.size w W) ⟨hF.drew, hB.drew⟩ ?_
      clear hF hB x0 x1 x2 x3
      iterate 18 ((try simp only [Act.put, List.setIfInBounds_toArray, List.set_cons_zero, List.set_cons_succ]); first
        | (refine t_skip (fun _ => rfl) (fun b γ W h => h) ?_)
        | (refine t_call (.string O) (fun _ => rfl) (f := 84) (args := #[.int .u64 (i / 262144), .int .i64 11]) ?_ (fun b γ W h _ => (H11.out W).mono (fun e w2 h2 => ⟨h2.1, h.1.below h2.2, h.2.trans (h2.2.mono h.2.size)⟩)) ?_; · (intro b γ W h _; go_simp; done))
        | (refine t_call (.string O2) (fun _ => rfl) (f := 84) (args := #[.int .u64 i, .int .i64 18]) ?_ (fun b γ W h _ => (H18.out W).mono (fun e w2 h2 => ⟨h2.1, h.1.below h2.2, h.2.trans (h2.2.mono h.2.size)⟩)) ?_; · (intro b γ W h _; go_simp; done))
        | (refine t_call (.string RR) (fun _ => rfl) (f := 88) (args := #[.bool r]) ?_ (fun b γ W h _ => (HSG.out W).mono (fun e w2 h2 => ⟨h2.1, by rw [← h2.2]; exact h⟩)) ?_; · (intro b γ W h _; go_simp; done))
        | (refine t_pure ?_ (fun _ => rfl) (fun b γ W h => h) (fun b γ W h _ => ?_) ?_; rotate_left; · (obtain ⟨x0, x1, x2, x3⟩ := frame_res h.1; go_simp; rfl)))
      refine t_end ?_
      intro bq gq w5 hall HB
      simp only [Act.put, List.setIfInBounds_toArray, List.set_cons_zero, List.set_cons_succ]
      go_wp2_with fail
      go_ret
      rw [HX.out, HE.out]
      exact ⟨rfl, HB.2⟩
set_option maxRecDepth 100000 in
set_option maxHeartbeats 6400000 in
theorem frame_body (e : Bool) (i : Int) (r : Bool) (d : ByteArray) (w : World) (hi : 0 ≤ i ∧ i < 4294967296) :
    Calls Tryz.prog 83 #[.agg #[.bool e, .int .u32 i, .bool r, .string d]] w fun x w' => x = .returned (.string (bodyF e i r d)) ∧ Below w.heap.size w w' := by
  have hF := Blk.new w [.bool e, .int .u32 i, .bool r, .string d] 35
  have hB := (Below.refl w.heap.size w).alloc (Nat.le_refl _) (.cells #[.bool e, .int .u32 i, .bool r, .string d] 35)
  obtain ⟨x0, x1, x2, x3⟩ := frame_res hF
  have HIS := hid (fun (W : World) => frame_is e i r d W)
  have HAR := hid (fun (W : World) => frame_arb e i r d W hi)
  obtain ⟨X, hX⟩ : ∃ X, X = bodyF e i r d := ⟨_, rfl⟩
  rw [← hX]
  unfold bodyF at hX
  cases hk : okF e i r d
  · rw [hk] at HIS
    rw [hk, if_neg (by simp)] at hX
    have HX := hid hX
    clear hX
    go_enter Tryz.func83, Tryz.ntmps83
    go_wp2_with fail
    refine (HIS.out _).mono ?_
    rintro y w1 ⟨rfl, hb⟩
    have hB := hB.trans (hb.mono hB.size)
    go_wp2_with fail
    go_ret
    rw [HX.out]
    exact ⟨rfl, hB⟩
  · rw [hk] at HIS
    rw [hk, if_pos rfl] at hX
    rw [arbF_ok hk] at HAR
    have HX := hid hX
    have hd8 := okF_size e i r d hk
    have hsl := size_list d
    have HO := hid (fun (W : World) => of_b (d.size : Int) 4 (by omega) (by decide) W)
    have HFB := hid (fun (W : World) => fromBytes_calls d W (by omega))
    rw [Int.toNat_natCast] at HO
    have sA : (B (arbL e i.toNat r)).size ≤ 33 := by rw [B_size, arbL_length]; split <;> omega
    have sO : (B (ofN d.size 4)).size = 4 := by rw [B_size, ofN_length]
    have sF : (B (fromB d.data.toList)).size ≤ 64 := by rw [B_size, fromB_length]; omega
    have HE := hid (show B (bodyL e i.toNat r d.data.toList) = B (arbL e i.toNat r) ++ (if e then ⟨#[48, 48]⟩ else ⟨#[48]⟩) ++ B (ofN d.size 4) ++ B (fromB d.data.toList) from by
      unfold bodyL
      cases e
      · rw [if_neg (by simp), if_neg (by simp), show (⟨#[48]⟩ : ByteArray) = B [false] from rfl]; simp only [B_append, hsl]; simp
      · rw [if_pos rfl, if_pos rfl, show (⟨#[48, 48]⟩ : ByteArray) = B [false, false] from rfl]; simp only [B_append, hsl]; simp)
    have uw : IntKind.u64.wrap (d.size : Int) = (d.size : Int) := wrap_u64 d.size (by omega)
    have ud : (d.size : Int) ≤ 8 := by omega
    clear hX
    generalize B (arbL e i.toNat r) = AA at *
    generalize B (ofN d.size 4) = O at *
    generalize B (fromB d.data.toList) = FF at *
    have z1 : (9223372036854775807 < AA.size + 1) = False := eq_false (by omega)
    have z2 : (9223372036854775807 < AA.size + 2) = False := eq_false (by omega)
    have z3 : (9223372036854775807 < AA.size + 1 + 4) = False := eq_false (by omega)
    have z4 : (9223372036854775807 < AA.size + 2 + 4) = False := eq_false (by omega)
    have z5 : (9223372036854775807 < AA.size + 1 + 4 + FF.size) = False := eq_false (by omega)
    have z6 : (9223372036854775807 < AA.size + 2 + 4 + FF.size) = False := eq_false (by omega)
    cases e
    all_goals
      go_enter Tryz.func83, Tryz.ntmps83
      go_wp2_with fail
      refine (HIS.out _).mono ?_
      rintro y w1 ⟨rfl, hb⟩
      have hB := hB.trans (hb.mono hB.size)
      have hF := hF.below hb
      obtain ⟨x0, x1, x2, x3⟩ := frame_res hF
      clear hb
      go_wp2_with fail
      refine region_text (by kernel_rfl) (by kernel_rfl) (fun _ _ W => Blk W w.heap.size 35 [.bool _, .int .u32 i, .bool r, .string d] ∧ Below w.heap.size w W) ⟨hF.drew, hB.drew⟩ ?_
      clear hF hB x0 x1 x2 x3
      iterate 15 ((try simp only [Act.put, List.setIfInBounds_toArray, List.set_cons_zero, List.set_cons_succ]); first
        | (refine t_skip (fun _ => rfl) (fun b γ W h => h) ?_)
        | (refine t_call (.string AA) (fun _ => rfl) (f := 57) (args := #[.agg #[.bool _, .int .u32 i, .bool r, .string d]]) ?_ (fun b γ W h _ => (HAR.out W).mono (fun e w2 h2 => ⟨h2.1, h.1.below h2.2, h.2.trans (h2.2.mono h.2.size)⟩)) ?_; · (intro b γ W h _; obtain ⟨x0, x1, x2, x3⟩ := frame_res h.1; go_simp; done))
        | (refine t_call (.string O) (fun _ => rfl) (f := 84) (args := #[.int .u64 (d.size : Int), .int .i64 4]) ?_ (fun b γ W h _ => (HO.out W).mono (fun e w2 h2 => ⟨h2.1, h.1.below h2.2, h.2.trans (h2.2.mono h.2.size)⟩)) ?_; · (intro b γ W h _; go_simp; done))
        | (refine t_call (.string FF) (fun _ => rfl) (f := 103) (args := #[.string d]) ?_ (fun b γ W h _ => (HFB.out W).mono (fun e w2 h2 => ⟨h2.1, h.1.below h2.2, h.2.trans (h2.2.mono h.2.size)⟩)) ?_; · (intro b γ W h _; go_simp; done))
        | (refine t_pure ?_ (fun _ => rfl) (fun b γ W h => h) (fun b γ W h _ => ?_) ?_; rotate_left; · (obtain ⟨x0, x1, x2, x3⟩ := frame_res h.1; go_simp; rfl)))
      refine t_end ?_
      intro bq gq w5 hall HB
      simp only [Act.put, List.setIfInBounds_toArray, List.set_cons_zero, List.set_cons_succ]
      go_wp2_with fail
      go_ret
      rw [HX.out, HE.out]
      exact ⟨rfl, HB.2⟩
end Go.Proofs.YtpkpnaedacefaaaGreat.FrameW
