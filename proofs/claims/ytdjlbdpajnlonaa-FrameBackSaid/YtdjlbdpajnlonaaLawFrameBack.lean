/- FrameBack (layer 3): what is written is read as the same frame, whatever is behind it; cut off it is too short. Conditions: none beyond the types of the arguments; longer rows and what is no frame are let pass. -/
import Derived.Test.YtdjlbdpajnlonaaLawFrameOrder
namespace Go.Proofs.Ytdjlbdpajnlonaa.FrameL
set_option linter.unusedVariables false
set_option linter.unusedSimpArgs false
open Go Go.RowKit Go.Proofs.Ytdjlbdpajnlonaa.Lib Go.Proofs.Ytdjlbdpajnlonaa.Bits Go.Proofs.Ytdjlbdpajnlonaa.BitsW Go.Proofs.Ytdjlbdpajnlonaa.Frame Go.Proofs.Ytdjlbdpajnlonaa.FrameW Go.Proofs.YtdjlbdpajnlonaaW.PrintMore
attribute [local go_sem] max2_int min2_int max_two min_two
attribute [local go_sem high] QFr.eqA24

theorem ok_rtr {e : Bool} {i : Int} {r : Bool} {d : ByteArray} (h : okF e i r d = true) : r = true → d.data.toList = [] := by
  intro hr
  subst hr
  unfold okF at h
  simp at h
  rw [h.2]
  rfl
theorem back_facts {e : Bool} {i : Int} {r : Bool} {d more : ByteArray} (hk : okF e i r d = true) (hi : 0 ≤ i ∧ i < 4294967296) (hm : more.size ≤ 60) :
    ∃ bb aa : ByteArray, Plug.frame_Body.f e i r d = some bb ∧ Plug.frame_Arb.f e i r d = some aa ∧ 0 < bb.size ∧ bb.size ≤ 103 ∧ aa.size < bb.size ∧ bb.extract 0 aa.size = aa ∧
      Plug.frame_Parse.f (bb ++ more) = some (e, i, r, d, (bb.size : Int), 0) ∧ ∀ k, k < bb.size → Plug.frame_Parse.f (bb.extract 0 k) = some (false, 0, false, ⟨#[]⟩, 0, 10) := by
  have hd8 := FrameEq.okF_size _ _ _ _ hk
  have hsl := size_list d
  have hlen := bodyL_length e i.toNat r d.data.toList
  have hL : (bodyL e i.toNat r d.data.toList).length ≤ 103 ∧ 19 ≤ (bodyL e i.toNat r d.data.toList).length := by rw [hlen]; split <;> omega
  have hal := arbL_length e i.toNat r
  have hab : (arbL e i.toNat r).length < (bodyL e i.toNat r d.data.toList).length := by rw [hlen, hal]; split <;> omega
  refine ⟨B (bodyL e i.toNat r d.data.toList), B (arbL e i.toNat r), ?_, ?_, ?_, ?_, ?_, ?_, ?_, ?_⟩
  · unfold Plug.frame_Body.f bodyF; rw [if_pos hi, if_pos hk]
  · unfold Plug.frame_Arb.f; rw [if_pos hi, FrameEq.arbF_ok hk]
  · rw [B_size]; omega
  · rw [B_size]; omega
  · rw [B_size, B_size]; exact hab
  · rw [B_size, Facts.B_extract, List.drop_zero, Nat.sub_zero]
    congr 1
    unfold bodyL
    rw [List.take_left]
  · unfold Plug.frame_Parse.f
    rw [if_pos (by rw [ByteArray.size_append, B_size]; omega)]
    have hb : bitsOf (B (bodyL e i.toNat r d.data.toList) ++ more) = bodyL e i.toNat r d.data.toList ++ bitsOf more := by
      have : ∀ x y : ByteArray, bitsOf (x ++ y) = bitsOf x ++ bitsOf y := fun x y => by simp [bitsOf]
      rw [this, bitsOf_B]
    rw [hb]
    unfold Plug.parseT
    rw [parse_body e i.toNat r d.data.toList (bitsOf more) (ok_lt hk hi) (by omega) (ok_rtr hk), B_size]
    have hi2 : ((i.toNat : Nat) : Int) = i := by omega
    rw [hi2]
    rfl
  · intro k hk2
    rw [B_size] at hk2
    unfold Plug.frame_Parse.f
    rw [if_pos (by rw [ByteArray.size_extract, B_size]; omega), bits_extract, bitsOf_B, List.drop_zero, Nat.sub_zero]
    unfold Plug.parseT
    rw [parse_cut e i.toNat r d.data.toList (by omega) (ok_rtr hk) k hk2]
    rfl
/-- A frame in memory. -/
structure One (w0 w : World) (g : Nat) (e1 : Bool) (i1 : Int) (r1 : Bool) (d1 : ByteArray) : Prop where
  fst : Blk w g 24 [.bool e1, .int .u32 i1, .bool r1, .string d1]
  below : Below w0.heap.size w0 w
theorem One.later {w0 w w' : World} {g : Nat} {e1 : Bool} {i1 : Int} {r1 : Bool} {d1 : ByteArray} (h : One w0 w g e1 i1 r1 d1) (hb : Below w.heap.size w w') : One w0 w' g e1 i1 r1 d1 :=
  ⟨h.fst.below hb, h.below.trans (hb.mono h.below.size)⟩
theorem One.alloc {w0 w : World} {g : Nat} {e1 : Bool} {i1 : Int} {r1 : Bool} {d1 : ByteArray} (h : One w0 w g e1 i1 r1 d1) (o : Obj) : One w0 (w.alloc o) g e1 i1 r1 d1 :=
  ⟨h.fst.alloc o, h.below.alloc h.below.size o⟩
set_option maxRecDepth 100000 in
set_option maxHeartbeats 6400000 in
theorem back_calls (e1 : Bool) (i1 : Int) (r1 : Bool) (d1 more : ByteArray) (c : Int) (w : World) (b1 : 0 ≤ i1 ∧ i1 < 4294967296) (hc : 0 ≤ c ∧ c ≤ 255) :
    Calls Try.prog 5 #[.agg #[.bool e1, .int .u32 i1, .bool r1, .string d1], .string more, .int .u8 c] w fun e w' => e = .returned (.bool true) ∧ Below w.heap.size w w' := by
  have HF : One w (w.alloc (.cells #[.bool e1, .int .u32 i1, .bool r1, .string d1] 24)) w.heap.size e1 i1 r1 d1 := ⟨Blk.new _ _ _, (Below.refl _ _).alloc (Nat.le_refl _) _⟩
  obtain ⟨hc0, hc1⟩ := hc
  have HB1 := hid b1
  clear b1
  go_enter Try.func5, Try.ntmps5
  go_wp2_with fail
  refine (known_calls _).mono ?_
  rintro x w1 ⟨rfl, hb⟩
  have HF := HF.later hb
  clear hb
  generalize hg : w.heap.size = g at *
  have HG := hid hg
  clear hg
  obtain ⟨x0, x1, x2, x3⟩ := frame_res HF.fst
  go_wp2_with (first
    | (go_at_call 12; with_reducible refine (few_calls _ _ _ _ _).mono ?_; rintro x w2 ⟨rfl, hb⟩; have HF' := HF.later hb; clear HF hb x0 x1 x2 x3; have HF := HF'; clear HF'; obtain ⟨x0, x1, x2, x3⟩ := frame_res HF.fst)
    | (go_at_call 13; with_reducible refine (frame_is _ _ _ _ _).mono ?_; rintro x w2 ⟨rfl, hb⟩; have HF' := HF.later hb; clear HF hb x0 x1 x2 x3; have HF := HF'; clear HF'; obtain ⟨x0, x1, x2, x3⟩ := frame_res HF.fst))
  all_goals try (go_ret; exact ⟨rfl, HF.below⟩)
  have hok : okF e1 i1 r1 d1 = true := by
    have h := (‹(more.size : Int) ≤ 60 ∧ (!okF e1 i1 r1 d1) = false›).2
    revert h
    cases okF e1 i1 r1 d1 <;> simp
  have hm : more.size ≤ 60 := by
    have h := (‹(more.size : Int) ≤ 60 ∧ (!okF e1 i1 r1 d1) = false›).1
    omega
  obtain ⟨bb, aa, p1, p2, z0, z1, z2, z3, q1, q2⟩ := back_facts hok HB1.out hm
  have P1 := hid p1
  have P2 := hid p2
  have Q1 := hid q1
  have Q2 := hid q2
  have Z3 := hid z3
  clear p1 p2 q1 q2 z3
  go_wp2_with fail
  refine (Plug.frame_Body.calls _ _ _ _ _ _ P1.out).mono ?_
  rintro x w3 ⟨rfl, hb⟩
  have HF' := HF.later hb
  clear HF hb x0 x1 x2 x3
  have HF := HF'
  clear HF'
  go_wp2_with fail
  refine (Plug.frame_Parse.calls _ _ _ _ _ _ _ _ Q1.out).mono ?_
  rintro x w4 ⟨rfl, hb⟩
  have HF' := HF.later hb
  clear HF hb
  have HF := HF'
  clear HF'
  have H1 := Blk.new w4 [.bool e1, .int .u32 i1, .bool r1, .string d1] 24
  have HF' := HF.alloc (.cells #[.bool e1, .int .u32 i1, .bool r1, .string d1] 24)
  obtain ⟨kk, hk, hkb⟩ : ∃ kk : Nat, c % (bb.size : Int) = (kk : Int) ∧ kk < bb.size := by
    refine ⟨(c % (bb.size : Int)).toNat, ?_, ?_⟩
    · have := Int.emod_nonneg c (show (bb.size : Int) ≠ 0 by omega)
      omega
    · have h1 := Int.emod_nonneg c (show (bb.size : Int) ≠ 0 by omega)
      have h2 := Int.emod_lt_of_pos c (show (0 : Int) < (bb.size : Int) by omega)
      omega
  have u1 : (kk : Int) ≤ (bb.size : Int) := by omega
  have u2 : (0 : Int) ≤ (kk : Int) := by omega
  have u3 : (bb.size : Int) ≠ 0 := by omega
  have u4 : (aa.size : Int) ≤ (bb.size : Int) := by omega
  have u5 : ((aa.size : Int) < (bb.size : Int)) = True := eq_true (by omega)
  have u6 : decide ((aa.size : Int) < (bb.size : Int)) = true := decide_eq_true (by omega)
  have Q3 := hid (Q2.out kk hkb)
  have HKB := hid hkb
  clear hkb Q2
  go_wp2_with fail
  refine (Plug.frame_Parse.calls _ _ _ _ _ _ _ _ Q3.out).mono ?_
  rintro x w5 ⟨rfl, hb⟩
  have HF'' := (HF'.later hb).alloc (.cells #[.bool false, .int .u32 0, .bool false, .string ⟨#[]⟩] 24)
  have H1' := (H1.below hb).alloc (.cells #[.bool false, .int .u32 0, .bool false, .string ⟨#[]⟩] 24)
  clear HF HF' hb H1
  have HF := HF''
  have H1 := H1'
  clear HF'' H1'
  obtain ⟨x0, x1, x2, x3⟩ := frame_res HF.fst
  obtain ⟨y0, y1, y2, y3⟩ := frame_res H1
  go_wp2_with fail
  refine (Plug.frame_Arb.calls _ _ _ _ _ _ P2.out).mono ?_
  rintro x w6 ⟨rfl, hb⟩
  have HF := HF.later hb
  have H1 := H1.below hb
  clear hb x0 x1 x2 x3 y0 y1 y2 y3
  obtain ⟨x0, x1, x2, x3⟩ := frame_res HF.fst
  obtain ⟨y0, y1, y2, y3⟩ := frame_res H1
  have E3 := Z3.out
  go_wp2_with fail
  go_ret
  exact ⟨rfl, HF.below⟩
theorem back_walk (e1 : Bool) (i1 : Int) (r1 : Bool) (d1 more : ByteArray) (c : Int) (w : World) (b1 : (Lit.int .u32 i1).wf = true) (_ : d1.size ≤ 9223372036854775807) (_ : more.size ≤ 9223372036854775807) (hc : (Lit.int .u8 c).wf = true) :
    Calls Try.prog 5 #[.agg #[.bool e1, .int .u32 i1, .bool r1, .string d1], .string more, .int .u8 c] w fun e w' => e = .returned (.bool true) ∧ Below w.heap.size w w' :=
  back_calls e1 i1 r1 d1 more c w (by have := bounds_u32 b1; omega) (by have := bounds_u8 hc; omega)
end Go.Proofs.Ytdjlbdpajnlonaa.FrameL
