/- CodeTurned (layer 4): a frame's bits with one, two, three of them turned are read as the document's reader tells. Conditions: none beyond the types of the arguments; what is no frame is let pass. -/
import Derived.Test.YtkdnldoebghclaaCodeLaws
import Derived.Test.YtkdnldoebghclaaRefD
import Derived.OpenShut
import Derived.WideShapes
namespace Go.Proofs.Ytkdnldoebghclaa.CodeL
set_option linter.unusedVariables false
set_option linter.unusedSimpArgs false
open Go.Proofs.YtkdnldoebghclaaW.PrintWords
open Go Go.RowKit Go.Proofs.Ytkdnldoebghclaa.Lib Go.Proofs.Ytkdnldoebghclaa.Bits Go.Proofs.Ytkdnldoebghclaa.BitsW Go.Proofs.Ytkdnldoebghclaa.StuffW Go.Proofs.Ytkdnldoebghclaa.Frame Go.Proofs.Ytkdnldoebghclaa.FrameW Go.Proofs.Ytkdnldoebghclaa.Code Go.Proofs.Ytkdnldoebghclaa.CodeW Go.Proofs.Ytkdnldoebghclaa.RefW Go.Proofs.YtkdnldoebghclaaW.PrintMore
attribute [local go_sem] max2_int min2_int max_two min_two
attribute [local go_sem high] eqA24

theorem open_arr3 {H : Type} {enc : TypeId × Value → H} {P : Program} {w : World} {base : Nat} {spare : Nat → Bool} {held : Bool} {r : Reach} {b0 : Nat} {t e : TypeId} {k : IntKind} {v : Value} {d : DataW H} {p : List MemPlace}
    (ht : P.underlying t = some (.array 3 e)) (he : P.underlying e = some (.int k)) (hC : P.cellsOf t = 3) (hE : P.cellsOf e = 1) (hv : Value.okWide P w r b0 t v) (h : DataW.Trod enc P w base spare held t v d p) :
    ∃ a0 a1 a2 : Int, v = .agg #[.int k a0, .int k a1, .int k a2] ∧ (Lit.int k a0).wf = true ∧ (Lit.int k a1).wf = true ∧ (Lit.int k a2).wf = true := by
  obtain ⟨cs, rfl, hsz⟩ : ∃ cs, v = .agg cs ∧ cs.size = P.cellsOf t := by
    simp only [Value.okWide, ht] at hv
    obtain ⟨cs, h1, h2, _⟩ := hv
    exact ⟨cs, h1, h2⟩
  obtain ⟨fuel, hf⟩ := h
  obtain ⟨xs, m, _, _, hl, hxl, hx⟩ := DataW.trod_array ht hf
  have hlen : cs.toList.length = 3 := by rw [← hC]; simpa using hsz
  obtain ⟨c0, c1, c2, hcs⟩ : ∃ c0 c1 c2, cs.toList = [c0, c1, c2] := by
    match cs.toList, hlen with
    | [c0, c1, c2], _ => exact ⟨c0, c1, c2, rfl⟩
  have hcells : (Value.agg cs).cells.toList = [c0, c1, c2] := hcs
  rw [hcells, hE] at hx
  have g0 := hx 0 (by decide)
  have g1 := hx 1 (by decide)
  have g2 := hx 2 (by decide)
  rw [List.getElem?_eq_getElem (by omega)] at g0 g1 g2
  obtain ⟨a0, e0, -, w0⟩ := DataW.trod_int he g0
  obtain ⟨a1, e1, -, w1⟩ := DataW.trod_int he g1
  obtain ⟨a2, e2, -, w2⟩ := DataW.trod_int he g2
  simp at e0 e1 e2
  subst e0 e1 e2
  refine ⟨a0, a1, a2, ?_, w0, w1, w2⟩
  rw [show cs = cs.toList.toArray by simp, hcs]
theorem same_dec2 (l : List Bool) : decode3 R3.new 0 l = decodeL Rd.zero 0 l := decode_same l Rd.zero R3.new 0 link_zero
/-- What is in memory: the frame, the places. -/
structure TurnAt (w0 w : World) (g g1 : Nat) (e1 : Bool) (i1 : Int) (r1 : Bool) (d1 : ByteArray) (a0 a1 a2 : Int) : Prop where
  fst : Blk w g 24 [.bool e1, .int .u32 i1, .bool r1, .string d1]
  snd : Blk w g1 36 [.int .u8 a0, .int .u8 a1, .int .u8 a2]
  below : Below w0.heap.size w0 w
theorem TurnAt.later {w0 w w' : World} {g g1 : Nat} {e1 : Bool} {i1 : Int} {r1 : Bool} {d1 : ByteArray} {a0 a1 a2 : Int} (h : TurnAt w0 w g g1 e1 i1 r1 d1 a0 a1 a2) (hb : Below w.heap.size w w') : TurnAt w0 w' g g1 e1 i1 r1 d1 a0 a1 a2 :=
  ⟨h.fst.below hb, h.snd.below hb, h.below.trans (hb.mono h.below.size)⟩
set_option maxRecDepth 100000 in
set_option maxHeartbeats 6400000 in
theorem turned_calls (e1 : Bool) (i1 : Int) (r1 : Bool) (d1 : ByteArray) (a0 a1 a2 c : Int) (w : World) (b1 : 0 ≤ i1 ∧ i1 < 4294967296) (hc : 0 ≤ c ∧ c ≤ 255) (ha0 : 0 ≤ a0 ∧ a0 ≤ 255) (ha1 : 0 ≤ a1 ∧ a1 ≤ 255) (ha2 : 0 ≤ a2 ∧ a2 ≤ 255) :
    Calls Try.prog 5 #[.agg #[.bool e1, .int .u32 i1, .bool r1, .string d1], .agg #[.int .u8 a0, .int .u8 a1, .int .u8 a2], .int .u8 c] w fun e w' => e = .returned (.bool true) ∧ Below w.heap.size w w' := by
  have HF : TurnAt w ((w.alloc (.cells #[.bool e1, .int .u32 i1, .bool r1, .string d1] 24)).alloc (.cells #[.int .u8 a0, .int .u8 a1, .int .u8 a2] 36)) w.heap.size (w.heap.size + 1) e1 i1 r1 d1 a0 a1 a2 := by
    refine ⟨(Blk.new w _ _).alloc _, ?_, ((Below.refl _ _).alloc (Nat.le_refl _) _).alloc (by simp) _⟩
    have := Blk.new (w.alloc (.cells #[.bool e1, .int .u32 i1, .bool r1, .string d1] 24)) [.int .u8 a0, .int .u8 a1, .int .u8 a2] 36
    simpa using this
  obtain ⟨h, hh, hh3⟩ : ∃ h : Nat, c % 4 = (h : Int) ∧ h ≤ 3 := ⟨(c % 4).toNat, by omega, by omega⟩
  have HPL := hid (show ∀ j : Nat, j < 3 → ∃ x : Int, [Value.int .u8 a0, .int .u8 a1, .int .u8 a2][j]? = some (.int .u8 x) ∧ 0 ≤ x ∧ x ≤ 255 by
    intro j hj
    rcases (by omega : j = 0 ∨ j = 1 ∨ j = 2) with rfl | rfl | rfl
    · exact ⟨a0, rfl, ha0⟩
    · exact ⟨a1, rfl, ha1⟩
    · exact ⟨a2, rfl, ha2⟩)
  obtain ⟨hc0, hc1⟩ := hc
  have HAC := hid (fun (W : World) => acked_calls e1 i1 r1 d1 W b1)
  have HIS := hid (fun (W : World) => Plug.ostinatoref3_Is.calls e1 i1 r1 d1 _ W rfl)
  have HA := hid (show okF e1 i1 r1 d1 = true → 44 ≤ (ackF e1 i1 r1 d1).size ∧ (ackF e1 i1 r1 d1).size ≤ 246 ∧ decodeL Rd.zero 0 (bitsOf (ackF e1 i1 r1 d1)) = ((e1, i1.toNat, r1, d1.data.toList), (ackF e1 i1 r1 d1).size, 0) by
    intro hk
    have hl := frame_len e1 i1.toNat r1 d1.data.toList (ok_len hk)
    have hcl := code_length e1 i1.toNat r1 d1.data.toList
    have hal : (ackF e1 i1 r1 d1).size = (codeL e1 i1.toNat r1 d1.data.toList).length := by rw [ackF_ok hk, B_size, hcl, List.length_append]; rfl
    refine ⟨by omega, by omega, ?_⟩
    rw [hal, ackF_ok hk, bitsOf_B]
    have := dec_whole (ok_lt hk b1) (ok_len hk) (ok_rtr hk) false []
    rw [List.append_nil] at this
    exact this)
  have HT := hid (show ∀ (S : ByteArray) (i : Int) (W : World), S.size ≤ 1000 → Calls Try.prog 16 #[.string S, .int .i64 i] W fun x w' => x = .returned (.string (B (turnI (bitsOf S) i))) ∧ Drawn0 W w' from
    fun S i W hS => Plug.ostinatoref1_Turn.calls S i _ W (by unfold Plug.ostinatoref1_Turn.f; rw [if_pos (by omega)]))
  have HTS := hid (show ∀ (S : ByteArray) (i : Int), (B (turnI (bitsOf S) i)).size = S.size from fun S i => by rw [B_size, turnI_length, bitsOf_length])
  have HI := hid b1
  generalize hA : ackF e1 i1 r1 d1 = A at *
  clear hA b1 ha0 ha1 ha2
  have HG := hid (rfl : w.heap.size = w.heap.size)
  go_enter Try.func5, Try.ntmps5
  go_wp2_with fail
  refine (known_calls _).mono ?_
  rintro x w1 ⟨rfl, hb⟩
  have HF := HF.later hb
  clear hb
  obtain ⟨g1, hg1⟩ : ∃ g1, g1 = w.heap.size + 1 := ⟨_, rfl⟩
  rw [← hg1] at HF ⊢
  have hg2 := hid hg1
  clear hg1
  generalize hg : w.heap.size = g at *
  have HG := hid hg
  clear hg
  obtain ⟨x0, x1, x2, x3⟩ := frame_res HF.fst
  go_wp2_with (first
    | (go_at_call 14; with_reducible refine (few_calls _ _ _ _ _).mono ?_; rintro x w2 ⟨rfl, hb⟩; have HF' := HF.later hb; clear HF hb x0 x1 x2 x3; have HF := HF'; clear HF'; obtain ⟨x0, x1, x2, x3⟩ := frame_res HF.fst)
    | (go_at_call 22; with_reducible refine (HIS.out _).mono ?_; rintro x w2 ⟨rfl, hb⟩; have HF' := HF.later hb; clear HF hb x0 x1 x2 x3; have HF := HF'; clear HF'; obtain ⟨x0, x1, x2, x3⟩ := frame_res HF.fst))
  all_goals try (go_ret; exact ⟨rfl, HF.below⟩)
  have hok : okF e1 i1 r1 d1 = true := by
    have h := ‹(!okF e1 i1 r1 d1) = false›
    revert h
    cases okF e1 i1 r1 d1 <;> simp
  obtain ⟨s1, s2, s3⟩ := HA.out hok
  have S3 := hid s3
  clear s3 HA HIS x0 x1 x2 x3
  refine (HAC.out _).mono ?_
  rintro x w3 ⟨rfl, hb⟩
  have HF' := HF.later hb
  clear HF hb HAC
  have HF := HF'
  clear HF'
  have u0 : (0 : Int) ≤ (h : Int) := by omega
  have u1 : (h : Int) ≤ 3 := by omega
  go_wp2_with fail
  go_loopw [7, 8] (fun s i wr => ∃ (j : Nat) (S : ByteArray), j ≤ h ∧ i = .int .i64 j ∧ s = .string S ∧ S.size = A.size ∧ (j = 0 → S = A) ∧ TurnAt w wr g g1 e1 i1 r1 d1 a0 a1 a2) (fun _ i _ => h - (intOf i).toNat)
  case atStart => exact ⟨0, A, Nat.zero_le _, rfl, rfl, rfl, fun _ => rfl, HF⟩
  case round =>
    clear HF
    obtain ⟨j, S, hj, rfl, rfl, hS, hSA, HF⟩ := hrel
    have HSA := hid hSA
    clear hSA
    by_cases hlt : j < h
    · obtain ⟨x, hx, hx0, hx1⟩ := HPL.out j (by omega)
      have cj := (HF.snd.cell j).trans hx
      have v1 : ((j : Int) < (h : Int)) = True := eq_true (by omega)
      have v2 : ((j : Int) < 3) = True := eq_true (by omega)
      have v3 : (0 : Int) ≤ (j : Int) := by omega
      have v4 : (S.size : Int) ≠ 0 := by omega
      have v5 : (j < h) = True := eq_true hlt
      have v6 : (j < 3) = True := eq_true (by omega)
      have v7 : ¬ (S.size = 0) := by omega
      have T1 := hid (HT.out S (x % (A.size : Int)))
      have TS := hid (HTS.out S (x % (A.size : Int)))
      clear hx
      go_wp2_with fail
      with_reducible refine (T1.out _ (by omega)).mono ?_
      rintro y w4 ⟨rfl, hb⟩
      have HF' := HF.later hb.below
      clear hb HF
      go_wp2_with fail
      go_roundw
      case rel => exact ⟨j + 1, _, by omega, by go_num, rfl, by rw [TS.out]; exact hS, fun h => by omega, HF'⟩
      case measure => simp [intOf]; omega
    · obtain rfl : j = h := by omega
      have v1 : ((j : Int) < (j : Int)) = False := eq_false (by omega)
      have D1 := hid (fun (W : World) => decode_calls S W (by omega))
      have D2 := hid (fun (W : World) => rdecode_calls S W (by omega))
      rw [same_dec2] at D2
      have HD := hid (show j = 0 → decodeL Rd.zero 0 (bitsOf S) = ((e1, i1.toNat, r1, d1.data.toList), A.size, 0) from fun h0 => by rw [HSA.out h0]; exact S3.out)
      generalize decodeL Rd.zero 0 (bitsOf S) = D at *
      obtain ⟨⟨e, n, r, d⟩, k, cc⟩ := D
      simp only at D1 D2
      have HD2 := hid (show j = 0 → (e = e1 ∧ (n : Int) = i1 ∧ r = r1 ∧ (⟨d.toArray⟩ : ByteArray) = d1) ∧ k = A.size ∧ cc = 0 from fun h0 => by
        have := HD.out h0
        simp only [Prod.mk.injEq] at this
        obtain ⟨⟨q1, q2, q3, q4⟩, q5, q6⟩ := this
        exact ⟨⟨q1, by have := HI.out; omega, q3, by rw [q4]⟩, q5, q6⟩)
      clear HD
      generalize (n : Int) = N at *
      generalize (⟨d.toArray⟩ : ByteArray) = dd at *
      have H0 := HF.fst
      have HB := HF.below
      clear HF HT HTS HSA
      go_wp2_with fail
      with_reducible refine (D1.out _).mono ?_
      rintro x w5 ⟨rfl, hb⟩
      have HB := HB.trans (hb.mono HB.size)
      have HB := HB.alloc HB.size (.cells #[.bool e, .int .u32 N, .bool r, .string dd] 24)
      have H9 := Blk.new w5 [.bool e, .int .u32 N, .bool r, .string dd] 24
      have H0 := (H0.below hb).alloc (.cells #[.bool e, .int .u32 N, .bool r, .string dd] 24)
      clear hb
      go_wp2_with fail
      with_reducible refine (D2.out _).mono ?_
      rintro x w6 ⟨rfl, hb⟩
      generalize w5.heap.size = g9 at *
      have HB := HB.trans (hb.mono HB.size)
      have HB := HB.alloc HB.size (.cells #[.bool e, .int .u32 N, .bool r, .string dd] 24)
      have H12 := Blk.new w6 [.bool e, .int .u32 N, .bool r, .string dd] 24
      have H9 := (H9.below hb).alloc (.cells #[.bool e, .int .u32 N, .bool r, .string dd] 24)
      have H0 := (H0.below hb).alloc (.cells #[.bool e, .int .u32 N, .bool r, .string dd] 24)
      clear hb D1 D2
      obtain ⟨y0, y1, y2, y3⟩ := frame_res H9
      obtain ⟨z0, z1, z2, z3⟩ := frame_res H12
      obtain ⟨x0, x1, x2, x3⟩ := frame_res H0
      by_cases h0 : j = 0
      · obtain ⟨⟨rfl, rfl, rfl, rfl⟩, rfl, rfl⟩ := HD2.out h0
        subst h0
        go_wp2_with fail
        go_ret
        exact ⟨rfl, HB⟩
      · have p1 : ((0 : Int) < (j : Int)) = True := eq_true (by omega)
        have p2 : (0 < j) = True := eq_true (by omega)
        have p3 : decide ((0 : Int) < (j : Int)) = true := decide_eq_true (by omega)
        have p4 : decide (0 < j) = true := decide_eq_true (by omega)
        go_wp2_with fail
        go_ret
        exact ⟨rfl, HB⟩
theorem turned_walk (e1 : Bool) (i1 : Int) (r1 : Bool) (d1 : ByteArray) (a0 a1 a2 c : Int) (w : World) (b1 : (Lit.int .u32 i1).wf = true) (_ : d1.size ≤ 9223372036854775807) (k0 : (Lit.int .u8 a0).wf = true) (k1 : (Lit.int .u8 a1).wf = true) (k2 : (Lit.int .u8 a2).wf = true) (hc : (Lit.int .u8 c).wf = true) :
    Calls Try.prog 5 #[.agg #[.bool e1, .int .u32 i1, .bool r1, .string d1], .agg #[.int .u8 a0, .int .u8 a1, .int .u8 a2], .int .u8 c] w fun e w' => e = .returned (.bool true) ∧ Below w.heap.size w w' :=
  turned_calls e1 i1 r1 d1 a0 a1 a2 c w (by have := bounds_u32 b1; omega) (by have := bounds_u8 hc; omega) (by have := bounds_u8 k0; omega) (by have := bounds_u8 k1; omega) (by have := bounds_u8 k2; omega)
end Go.Proofs.Ytkdnldoebghclaa.CodeL
