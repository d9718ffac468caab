/- What layer 4's laws have in common: the few, a frame's bits on the wire, read. -/
import Derived.Test.YtpkpnaedacefaaaGreatCodeMath
namespace Go.Proofs.YtpkpnaedacefaaaGreat.CodeL
set_option linter.unusedVariables false
set_option linter.unusedSimpArgs false

open Go Go.RowKit Go.Proofs.YtpkpnaedacefaaaGreat.Lib Go.Proofs.YtpkpnaedacefaaaGreat.Bits Go.Proofs.YtpkpnaedacefaaaGreat.BitsW Go.Proofs.YtpkpnaedacefaaaGreat.StuffW Go.Proofs.YtpkpnaedacefaaaGreat.Frame Go.Proofs.YtpkpnaedacefaaaGreat.FrameW Go.Proofs.YtpkpnaedacefaaaGreat.Code Go.Proofs.YtpkpnaedacefaaaGreat.CodeW Go.Proofs.YtpkpnaedacefaaaGreat.PrintMore
attribute [local go_sem] max2_int min2_int max_two min_two

theorem ok_lt {e : Bool} {i : Int} {r : Bool} {d : ByteArray} (h : okF e i r d = true) (b : 0 ≤ i ∧ i < 4294967296) : i.toNat < if e then 536870912 else 2048 := by
  cases e
  · have := (FrameEq.okF_std i r d h).1; simp; omega
  · have := (FrameEq.okF_ext i r d h).1; simp; omega
theorem ok_rtr {e : Bool} {i : Int} {r : Bool} {d : ByteArray} (h : okF e i r d = true) : r = true → d.data.toList = [] := by
  intro hr
  subst hr
  unfold okF at h
  simp at h
  rw [h.2]
  rfl
theorem ok_len {e : Bool} {i : Int} {r : Bool} {d : ByteArray} (h : okF e i r d = true) : d.data.toList.length ≤ 8 := by
  rw [size_list]; exact FrameEq.okF_size _ _ _ _ h
/-- Decode, told by its answer: a frame; an error. -/
theorem turn_cons (a : Bool) (x : List Bool) (j : Nat) : turn (a :: x) (j + 1) = a :: turn x j := by simp [turn]
theorem turn_right : ∀ (x y : List Bool) (j : Nat), turn (x ++ y) (x.length + j) = x ++ turn y j
  | [], y, j => by simp
  | a :: x, y, j => by
    rw [List.cons_append, List.length_cons, show x.length + 1 + j = (x.length + j) + 1 by omega, turn_cons, turn_right x y j]; rfl
theorem turnI_right (x y : List Bool) (j : Nat) (h : j < y.length) : turnI (x ++ y) ((x.length + j : Nat) : Int) = x ++ turn y j := by
  unfold turnI
  rw [if_pos (by rw [List.length_append]; omega), Int.toNat_natCast, turn_right]
theorem turn_left : ∀ (x y : List Bool) (j : Nat), j < x.length → turn (x ++ y) j = turn x j ++ y
  | [], y, j, h => by simp at h
  | a :: x, y, 0, h => by simp [turn]
  | a :: x, y, j + 1, h => by rw [List.cons_append, turn_cons, turn_cons, turn_left x y j (by simpa using h)]; rfl
theorem turn_take (x : List Bool) : ∀ (j k : Nat), k ≤ j → (turn x j).take k = x.take k := by
  induction x with
  | nil => intro j k _; simp [turn]
  | cons a x ih =>
    intro j k h
    cases k with
    | zero => simp
    | succ k =>
      obtain ⟨j, rfl⟩ : ∃ m, j = m + 1 := ⟨j - 1, by omega⟩
      rw [turn_cons, List.take_succ_cons, List.take_succ_cons, ih j k (by omega)]
/-- A frame's last bits when it is taken. -/
def ackT : List Bool := true :: false :: List.replicate 8 true
theorem ack_turn : turn (List.replicate 10 true) 1 = ackT := by decide
theorem frame_len (e : Bool) (n : Nat) (r : Bool) (d : List UInt8) (hd : d.length ≤ 8) : 34 ≤ (stuff (sumL (bodyL e n r d))).length ∧ (stuff (sumL (bodyL e n r d))).length ≤ 236 := by
  have h1 := stuff_le (sumL (bodyL e n r d))
  have h0 := stuffL_le (sumL (bodyL e n r d)) 0 false
  have h2 := bodyL_length e n r d
  have h3 : (sumL (bodyL e n r d)).length ≤ 118 ∧ 34 ≤ (sumL (bodyL e n r d)).length := by unfold sumL; rw [List.length_append, ofN_length, h2]; split <;> omega
  unfold stuff at *
  omega
theorem code_app (e : Bool) (n : Nat) (r : Bool) (d : List UInt8) : codeL e n r d = stuff (sumL (bodyL e n r d)) ++ List.replicate 10 true := rfl
theorem code_length (e : Bool) (n : Nat) (r : Bool) (d : List UInt8) : (codeL e n r d).length = (stuff (sumL (bodyL e n r d))).length + 10 := by rw [code_app, List.length_append, List.length_replicate]
theorem code_turn (e : Bool) (n : Nat) (r : Bool) (d : List UInt8) (j : Nat) (hj : j < 10) : turnI (codeL e n r d) (((codeL e n r d).length : Int) - 10 + j) = stuff (sumL (bodyL e n r d)) ++ turn (List.replicate 10 true) j := by
  rw [show (((codeL e n r d).length : Int) - 10 + j) = (((stuff (sumL (bodyL e n r d))).length + j : Nat) : Int) by rw [code_length]; omega, code_app, turnI_right _ _ _ (by simpa using hj)]
theorem code_ack (e : Bool) (n : Nat) (r : Bool) (d : List UInt8) : turnI (codeL e n r d) (((codeL e n r d).length : Int) - 10 + 1) = stuff (sumL (bodyL e n r d)) ++ ackT := by
  have := code_turn e n r d 1 (by decide)
  rw [ack_turn] at this
  exact this
/-- A frame's bits and some last ones. -/
theorem dec_last {e : Bool} {n : Nat} {r : Bool} {d : List UInt8} (hn : n < if e then 536870912 else 2048) (hd : d.length ≤ 8) (hr : r = true → d = []) (t : List Bool) :
    decodeL Rd.zero 0 (stuff (sumL (bodyL e n r d)) ++ t) = ends (e, n, r, d) false (stuff (sumL (bodyL e n r d))).length 0 t := by
  rw [dec_stuff (sumL_fr e n r d hd hr) t, sumL_zero]
  have hp := parse_body e n r d (ofN (crcN (bodyL e n r d)) 15) hn hd hr
  rw [show bodyL e n r d ++ ofN (crcN (bodyL e n r d)) 15 = sumL (bodyL e n r d) from rfl] at hp
  rw [hp]
  rfl
theorem dec_whole {e : Bool} {n : Nat} {r : Bool} {d : List UInt8} (hn : n < if e then 536870912 else 2048) (hd : d.length ≤ 8) (hr : r = true → d = []) (a : Bool) (more : List Bool) :
    decodeL Rd.zero 0 (stuff (sumL (bodyL e n r d)) ++ (true :: a :: (List.replicate 8 true ++ more))) = ((e, n, r, d), (codeL e n r d).length, 0) := by
  rw [dec_last hn hd hr, tail_ok, code_length]
theorem dec_cut {e : Bool} {n : Nat} {r : Bool} {d : List UInt8} (hn : n < if e then 536870912 else 2048) (hd : d.length ≤ 8) (hr : r = true → d = []) (a : Bool) (k : Nat) (hk : k < (codeL e n r d).length) :
    decodeL Rd.zero 0 ((stuff (sumL (bodyL e n r d)) ++ (true :: a :: List.replicate 8 true)).take k) = ((false, 0, false, []), k, 10) := by
  have h := dec_whole hn hd hr a []
  rw [List.append_nil] at h
  have h2 := dec_ok (stuff (sumL (bodyL e n r d)) ++ (true :: a :: List.replicate 8 true)) Rd.zero 0 (by rw [h])
  rw [h] at h2
  have h3 := dec_short _ _ 0 (h2.2.2 k (by simpa using hk))
  rw [h3, Nat.zero_add, List.length_take]
  have hl : (stuff (sumL (bodyL e n r d)) ++ (true :: a :: List.replicate 8 true)).length = (codeL e n r d).length := by rw [code_length]; simp
  rw [hl, Nat.min_eq_left (by omega)]
theorem codeF_ok {e : Bool} {i : Int} {r : Bool} {d : ByteArray} (h : okF e i r d = true) : codeF e i r d = B (codeL e i.toNat r d.data.toList) := if_pos h
theorem codeF_no {e : Bool} {i : Int} {r : Bool} {d : ByteArray} (h : okF e i r d = false) : codeF e i r d = ⟨#[]⟩ := if_neg (by simp [h])
theorem codeF_size {e : Bool} {i : Int} {r : Bool} {d : ByteArray} (h : okF e i r d = true) : (codeF e i r d).size = (codeL e i.toNat r d.data.toList).length := by rw [codeF_ok h, B_size]
theorem codeF_zero (e : Bool) (i : Int) (r : Bool) (d : ByteArray) : (codeF e i r d).size = 0 ↔ okF e i r d = false := by
  cases h : okF e i r d
  · rw [codeF_no h]; exact ⟨fun _ => rfl, fun _ => rfl⟩
  · rw [codeF_size h, code_length]; simp
theorem ackF_ok {e : Bool} {i : Int} {r : Bool} {d : ByteArray} (h : okF e i r d = true) : ackF e i r d = B (stuff (sumL (bodyL e i.toNat r d.data.toList)) ++ ackT) := by
  unfold ackF; rw [if_pos h, code_ack]
/-- A frame in memory. -/
structure One (w0 w : World) (g : Nat) (e1 : Bool) (i1 : Int) (r1 : Bool) (d1 : ByteArray) : Prop where
  fst : Blk w g 35 [.bool e1, .int .u32 i1, .bool r1, .string d1]
  below : Below w0.heap.size w0 w
theorem One.later {w0 w w' : World} {g : Nat} {e1 : Bool} {i1 : Int} {r1 : Bool} {d1 : ByteArray} (h : One w0 w g e1 i1 r1 d1) (hb : Below w.heap.size w w') : One w0 w' g e1 i1 r1 d1 :=
  ⟨h.fst.below hb, h.below.trans (hb.mono h.below.size)⟩
theorem One.alloc {w0 w : World} {g : Nat} {e1 : Bool} {i1 : Int} {r1 : Bool} {d1 : ByteArray} (h : One w0 w g e1 i1 r1 d1) (o : Obj) : One w0 (w.alloc o) g e1 i1 r1 d1 :=
  ⟨h.fst.alloc o, h.below.alloc h.below.size o⟩
theorem One.drew {w0 w : World} {g : Nat} {e1 : Bool} {i1 : Int} {r1 : Bool} {d1 : ByteArray} (h : One w0 w g e1 i1 r1 d1) : One w0 w.drew g e1 i1 r1 d1 := ⟨h.fst.drew, h.below.drew⟩
theorem One.make (w : World) (e1 : Bool) (i1 : Int) (r1 : Bool) (d1 : ByteArray) : One w (w.alloc (.cells #[.bool e1, .int .u32 i1, .bool r1, .string d1] 35)) w.heap.size e1 i1 r1 d1 :=
  ⟨Blk.new _ _ _, (Below.refl _ _).alloc (Nat.le_refl _) _⟩
end Go.Proofs.YtpkpnaedacefaaaGreat.CodeL
