/- Rows of bits are read by package code. -/
import Derived.Test.YtkdnldoebghclaaCodeRead
import Derived.Test.YtkdnldoebghclaaCodeFacts
import Derived.Scope
import Derived.WalkMore
namespace Go.Proofs.Ytkdnldoebghclaa.CodeW
set_option linter.unusedVariables false
set_option linter.unusedSimpArgs false
open Go Go.RowKit Go.Proofs.Ytkdnldoebghclaa.Lib Go.Proofs.Ytkdnldoebghclaa.Bits Go.Proofs.Ytkdnldoebghclaa.BitsW Go.Proofs.Ytkdnldoebghclaa.StuffW Go.Proofs.Ytkdnldoebghclaa.Frame Go.Proofs.Ytkdnldoebghclaa.FrameW Go.Proofs.Ytkdnldoebghclaa.Code Go.Proofs.YtkdnldoebghclaaW.PrintMore
attribute [local go_sem] max2_int min2_int max_two min_two


def zeroL : List Value := [.int .u8 0, .int .i64 0] ++ (List.replicate 128 (.int .u8 0) ++ [.int .i64 0, .int .i64 0, .int .u16 0, .int .i64 0, .bool false])
theorem zero_54 : Try.zeroCells54 = zeroL.toArray := by kernel_rfl
theorem zero_rd : IsRd zeroL 0 Rd.zero := ⟨by simp [arrOf, byteVs, Rd.zero], [], [], by simp [zeroL, arrOf, byteVs, Rd.zero], rfl⟩
/-- What is known at a round. -/
structure DecAt (s : ByteArray) (w wr : World) (fr rg k : Nat) (r : Rd) : Prop where
  rd : ∃ cs, Blk wr rg 54 cs ∧ IsRd cs 0 r
  inv : r.Inv
  en : r.en ≤ 9
  res : Blk wr fr 24 [.bool false, .int .u32 0, .bool false, .string ⟨#[]⟩]
  below : Below w.heap.size w wr
  law : decodeL Rd.zero 0 (bitsOf s) = decodeL r k ((bitsOf s).drop k)
theorem inv_ok {r : Rd} (h : r.Inv) (he : r.en ≤ 1000) : Rd.Ok r := ⟨by have := h.rn; omega, by have := h.len; omega, by have := h.need; omega, h.sum, by omega⟩
set_option maxRecDepth 100000 in
set_option maxHeartbeats 6400000 in
theorem decode_calls (s : ByteArray) (w : World) (hs : s.size ≤ 140737488351232) :
    Calls Try.prog 20 #[.string s] w fun x w' => x = .returned (.tuple #[.agg #[.bool (decodeL Rd.zero 0 (bitsOf s)).1.1, .int .u32 (decodeL Rd.zero 0 (bitsOf s)).1.2.1, .bool (decodeL Rd.zero 0 (bitsOf s)).1.2.2.1, .string ⟨(decodeL Rd.zero 0 (bitsOf s)).1.2.2.2.toArray⟩],
      .int .i64 (decodeL Rd.zero 0 (bitsOf s)).2.1, .int .i64 (decodeL Rd.zero 0 (bitsOf s)).2.2]) ∧ Below w.heap.size w w' := by
  have hB1 : Below w.heap.size w ((w.alloc (.cells #[.bool false, .int .u32 0, .bool false, .string ⟨#[]⟩] 24)).alloc (.cells Try.zeroCells54 54)) := ((Below.refl _ _).alloc (Nat.le_refl _) _).alloc (by simp) _
  have hF1 : Blk ((w.alloc (.cells #[.bool false, .int .u32 0, .bool false, .string ⟨#[]⟩] 24)).alloc (.cells Try.zeroCells54 54)) w.heap.size 24 [.bool false, .int .u32 0, .bool false, .string ⟨#[]⟩] := (Blk.new w _ _).alloc _
  have hR1 : Blk ((w.alloc (.cells #[.bool false, .int .u32 0, .bool false, .string ⟨#[]⟩] 24)).alloc (.cells Try.zeroCells54 54)) (w.heap.size + 1) 54 zeroL := by
    have := Blk.new (w.alloc (.cells #[.bool false, .int .u32 0, .bool false, .string ⟨#[]⟩] 24)) zeroL 54
    rw [← zero_54] at this
    simpa using this
  have HD : DecAt s w _ w.heap.size (w.heap.size + 1) 0 Rd.zero := ⟨⟨zeroL, hR1, zero_rd⟩, Rd.zero_inv, by decide, hF1, hB1, by rw [List.drop_zero]⟩
  clear hB1 hF1 hR1
  obtain ⟨q, hq⟩ : ∃ q, decodeL Rd.zero 0 (bitsOf s) = q := ⟨_, rfl⟩
  rw [hq]
  have HQ := hid hq
  have hbs := bitsOf_length s
  clear hq
  obtain ⟨⟨qe, qn, qr, qd⟩, qi, qc⟩ := q
  go_enter Try.func20, Try.ntmps20
  go_wp2_with fail
  go_step3
  go_wp2_with fail
  go_step3
  go_wp2_with fail
  go_loopw [6] (fun i wr => ∃ (k : Nat) (r : Rd), k ≤ s.size ∧ i = .int .i64 k ∧ DecAt s w wr w.heap.size (w.heap.size + 1) k r) (fun i _ => s.size - (intOf i).toNat)
  case atStart => exact ⟨0, Rd.zero, Nat.zero_le _, rfl, HD⟩
  case round =>
    clear HD
    obtain ⟨k, r, hk, rfl, HD⟩ := hrel
    by_cases hlt : k < s.size
    · obtain ⟨cs, hb, hr⟩ := HD.rd
      have hinv := HD.inv
      have hen9 := HD.en
      obtain ⟨c, hc⟩ : ∃ c, (bitsOf s).getD k false = c := ⟨_, rfl⟩
      have hbit := bit_at s k hlt
      rw [hc] at hbit
      have hdrop : (bitsOf s).drop k = c :: (bitsOf s).drop (k + 1) := by
        rw [List.drop_eq_getElem_cons (by omega), ← hc, List.getD_eq_getElem?_getD, List.getElem?_eq_getElem (by omega), Option.getD_some]
      have hlaw := HD.law
      rw [hdrop, HQ.out, decodeL] at hlaw
      have HRES := hid HD.res
      have HBEL := hid HD.below
      have HLW := hid HD.law
      have HDR := hid hdrop
      have hlt2 := hb.lt
      have hklt : (k : Int) < (s.size : Int) := by omega
      have k0 : (0 : Int) ≤ (k : Int) := Int.natCast_nonneg _
      have k1 : (k : Int) ≤ 140737488351232 := by omega
      have kne : ((k : Int) == (s.size : Int)) = false := by rw [beq_eq_false_iff_ne]; omega
      have kne2 : (k = s.size) = False := eq_false (by omega)
      have HP := hid (fun (W : World) (hW : Blk W (w.heap.size + 1) 54 cs) => push_calls (w.heap.size + 1) 0 54 cs r c W hW hr (inv_ok hinv (by omega)) hinv.rn (by omega))
      have HPI := hid (fun (h : (r.push c).2 = 0) => hinv.push c h)
      have HLAW := hid hlaw
      have HB := hid hb
      have HEN := hid hen9
      clear HD hb hr hinv hen9 hc hdrop hlaw hlt2
      generalize hpc : r.push c = P at *
      obtain ⟨r', err⟩ := P
      simp only at HP HPI HLAW
      cases c
      all_goals
        first
          | rw [show ((sg true).toNat : Int) = 49 from rfl] at HP
          | rw [show ((sg false).toNat : Int) = 48 from rfl] at HP
        go_wp2_with fail
        refine (HP.out _ HB.out).mono ?_
        rintro e w2 ⟨rfl, ⟨⟨cs', hb2, hr2, _⟩, hg2⟩⟩
        have hres2 := HRES.out.grown hg2 (by simp)
        have hbel2 := HBEL.out.grown hg2 HBEL.out.size (fun j h => by cases h; omega)
        by_cases he : err = 0
        · subst he
          obtain ⟨hinv2, hen2⟩ := HPI.out rfl
          have hlaw := HLAW.out
          rw [if_neg (by simp)] at hlaw
          have hok2 : Rd.Ok r' := inv_ok hinv2 (by have := HEN.out; omega)
          have HE := hid (end_calls (w.heap.size + 1) 0 54 cs' r' w2 hb2 hr2 hok2)
          have HF := hid (frame_calls (w.heap.size + 1) 0 54 cs' r' w2 hb2 hr2 hok2)
          by_cases ht : r'.en = 10
          · rw [if_pos ht] at hlaw
            obtain ⟨pq, hpq⟩ : ∃ q, parseL r'.b = q := ⟨_, rfl⟩
            rw [hpq] at hlaw HF
            obtain ⟨⟨e0, n0, r0, d0⟩, kk, ee⟩ := pq
            simp only at hlaw HF
            cases hlaw
            rw [ht] at HE
            clear hb2 hr2 hok2 hinv2 hen2 hg2 hpq
            go_wp2_with (go_at_call 36; with_reducible refine HE.out.mono ?_; rintro e w' ⟨rfl, rfl⟩)
            refine HF.out.mono ?_
            rintro e w3 ⟨rfl, hb3⟩
            have hres3 := hres2.below hb3
            have hbel3 := hbel2.trans (hb3.mono hbel2.size)
            obtain ⟨y0, y1, y2, y3⟩ := frame_res hres3
            obtain ⟨f0, f1, f2, f3⟩ := frame_free hres3
            have hz := frame_res (set4_blk hres3 qe qn qr ⟨qd.toArray⟩)
            have hbz := set4_below hbel3 (Nat.le_refl _) qe qn qr ⟨qd.toArray⟩
            unfold set4 at hz hbz
            have HZ := hid hz
            have HBZ := hid hbz
            clear hz hbz hres3 hbel3 hres2 hbel2 hb3
            go_wp2_with fail
            obtain ⟨z0, z1, z2, z3⟩ := HZ.out
            rw [Exit.noGoto_ret]
            exact bodyPost_ret (v := .tuple #[.agg #[.bool qe, .int .u32 qn, .bool qr, .string ⟨qd.toArray⟩], .int .i64 ((k + 1 : Nat) : Int), .int .i64 0]) (by simp [results, Try.results20, go_sem, z0, z1, z2, z3]) rfl ⟨rfl, HBZ.out⟩
          · rw [if_neg ht] at hlaw
            have HL2 := hid hlaw
            have t7 : (((r'.en - 3 : Nat) : Int) == 7) = false := by rw [beq_eq_false_iff_ne]; omega
            have t8 : (r'.en - 3 = 7) = False := eq_false (by omega)
            have HH := hid (show DecAt s w w2 w.heap.size (w.heap.size + 1) (k + 1) r' from ⟨⟨cs', hb2, hr2⟩, hinv2, by have := HEN.out; omega, hres2, hbel2, by rw [HQ.out]; exact hlaw⟩)
            clear hlaw hb2 hr2 hok2 hinv2 hen2 hg2 hres2 hbel2 ht
            generalize r'.en - 3 = en3 at *
            go_wp2_with (go_at_call 36; with_reducible refine HE.out.mono ?_; rintro e w' ⟨rfl, rfl⟩)
            go_roundw
            case rel => exact ⟨k + 1, r', by omega, by go_num, HH.out⟩
            case measure => simp [intOf]; omega
        · have hlaw := HLAW.out
          rw [if_pos (by simpa using he)] at hlaw
          cases hlaw
          have t1 : ((qc : Int) == 0) = false := by rw [beq_eq_false_iff_ne]; omega
          have t2 : (qc = 0) = False := eq_false he
          obtain ⟨y0, y1, y2, y3⟩ := frame_res hres2
          obtain ⟨f0, f1, f2, f3⟩ := frame_free hres2
          have hz := frame_res (set4_blk hres2 false 0 false ⟨#[]⟩)
          have hbz := set4_below hbel2 (Nat.le_refl _) false 0 false ⟨#[]⟩
          unfold set4 at hz hbz
          have HZ := hid hz
          have HBZ := hid hbz
          clear hz hbz hres2 hbel2 hb2 hr2 hg2 he
          go_wp2_with fail
          obtain ⟨z0, z1, z2, z3⟩ := HZ.out
          rw [Exit.noGoto_ret]
          exact bodyPost_ret (v := .tuple #[.agg #[.bool false, .int .u32 0, .bool false, .string ⟨#[]⟩], .int .i64 (qi : Int), .int .i64 (qc : Int)]) (by simp [results, Try.results20, go_sem, z0, z1, z2, z3]) rfl ⟨rfl, HBZ.out⟩
    · obtain rfl : k = s.size := by omega
      have hlaw := HD.law
      rw [List.drop_of_length_le (by omega), HQ.out] at hlaw
      obtain ⟨y0, y1, y2, y3⟩ := frame_res HD.res
      obtain ⟨f0, f1, f2, f3⟩ := frame_free HD.res
      have hz := frame_res (set4_blk HD.res false 0 false ⟨#[]⟩)
      have hbz := set4_below HD.below (Nat.le_refl _) false 0 false ⟨#[]⟩
      unfold set4 at hz hbz
      have HZ := hid hz
      have HBZ := hid hbz
      obtain ⟨⟨rfl, rfl, rfl, rfl⟩, rfl, rfl⟩ : (qe = false ∧ qn = 0 ∧ qr = false ∧ qd = []) ∧ qi = s.size ∧ qc = 10 := by
        simp [decodeL] at hlaw
        exact ⟨⟨hlaw.1.1, hlaw.1.2.1, hlaw.1.2.2.1, hlaw.1.2.2.2⟩, hlaw.2.1, hlaw.2.2⟩
      clear hz hbz hlaw HD
      go_wp2_with fail
      obtain ⟨z0, z1, z2, z3⟩ := HZ.out
      rw [Exit.noGoto_ret]
      exact bodyPost_ret (v := .tuple #[.agg #[.bool false, .int .u32 0, .bool false, .string ⟨#[]⟩], .int .i64 (s.size : Int), .int .i64 10]) (by simp [results, Try.results20, go_sem, z0, z1, z2, z3]) rfl ⟨rfl, HBZ.out⟩
end Go.Proofs.Ytkdnldoebghclaa.CodeW
