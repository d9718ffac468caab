/- MacSums (layer 7): a frame with another sum is met at the third bit behind it, and nobody says that it came. Conditions: none beyond the types of the arguments. -/
import Derived.Test.YtgmjofcbdimjgaaMacKnown
import Derived.Test.YtgmjofcbdimjgaaMacIdle
import Derived.Test.YtgmjofcbdimjgaaRefU
import Derived.Test.YtgmjofcbdimjgaaRefS
namespace Go.Proofs.Ytgmjofcbdimjgaa.MacL
set_option linter.unusedVariables false
set_option linter.unusedSimpArgs false
open Go Go.RowKit Go.Proofs.Ytgmjofcbdimjgaa.Lib Go.Proofs.Ytgmjofcbdimjgaa.Bits Go.Proofs.Ytgmjofcbdimjgaa.BitsW Go.Proofs.Ytgmjofcbdimjgaa.StuffW Go.Proofs.Ytgmjofcbdimjgaa.Frame Go.Proofs.Ytgmjofcbdimjgaa.FrameW Go.Proofs.Ytgmjofcbdimjgaa.Code Go.Proofs.Ytgmjofcbdimjgaa.CodeW Go.Proofs.Ytgmjofcbdimjgaa.CodeL Go.Proofs.Ytgmjofcbdimjgaa.Mac Go.Proofs.Ytgmjofcbdimjgaa.MacW Go.Proofs.Ytgmjofcbdimjgaa.RefW Go.Proofs.Ytgmjofcbdimjgaa.PrintMore
attribute [local go_sem] max2_int min2_int max_two min_two
attribute [local go_sem] field_got field_sent
def suM (A : List Bool) (j : Nat) : M := if j = 0 then idleM else { idleM with st := 1, r := Rd.zero.all (A.take j) }
structure SuF (A : List Bool) (n : Nat) (m : Nat → M) : Prop where
  len : A.length = n
  lo : 10 ≤ n
  hi : n ≤ 200
  first : m 0 = idleM
  step : ∀ j, j + 1 < n → ∃ ev, (m j).sample (bitAt A j) = (m (j + 1), ev) ∧ (0 < j → ev = [])
  drive : ∀ j, 0 < j → j < n → (m j).drive = true
  last : ∀ j, j + 1 = n → ∃ e, (m j).sample (bitAt A j) = (e, [⟨5, Fm.zero, 40⟩])
theorem su_facts {S : List Bool} {H L : Nat} (F : Fr S H L) (hz : crcN S ≠ 0) (h1 : S.length = 34) (h2 : ∃ l, S = false :: l) : SuF (stuff S ++ [true, false, true]) ((stuff S).length + 3) (suM (stuff S ++ [true, false, true])) := by
  have hlen : (stuff S ++ [true, false, true]).length = (stuff S).length + 3 := by rw [List.length_append]; rfl
  have hs := stuffL_length S 0 false
  have hs' : S.length ≤ (stuff S).length ∧ (stuff S).length ≤ 2 * S.length := hs
  have hA : ∀ j, 0 < j → suM (stuff S ++ [true, false, true]) j = { idleM with st := 1, r := Rd.zero.all ((stuff S ++ [true, false, true]).take j) } := fun j h => if_neg (by omega)
  have hp : ∀ j, j < (stuff S).length + 3 → ((Rd.zero.all ((stuff S ++ [true, false, true]).take j)).push (bitAt (stuff S ++ [true, false, true]) j)) = (Rd.zero.all ((stuff S ++ [true, false, true]).take (j + 1)), if j = (stuff S).length + 2 then 40 else 0) := by
    intro j hj
    rw [bitAt_eq _ _ (by omega), all_snoc _ _ j (by omega)]
    refine Prod.ext rfl ?_
    by_cases h : j < (stuff S).length
    · have := fine_at (stuff S) Rd.zero j h (stuff_fine F)
      rw [List.take_append_of_le_length (by omega), List.getElem_append_left h, if_neg (by omega)]
      exact this
    · obtain ⟨k, b, ld, hk, e⟩ := rd_fin F [true, false, true] j (by omega) (by show j ≤ (stuff S).length + 3; omega)
      rw [e, fin_push F k b _ ld hk, List.getElem_append_right (by omega)]
      obtain ⟨i, hi⟩ : ∃ i, j - (stuff S).length = i := ⟨_, rfl⟩
      have hji : j = (stuff S).length + i := by omega
      simp only [hi]
      have hi3 : i < 3 := by omega
      match i, hi3 with
      | 0, _ => rw [if_neg (show ¬ j = (stuff S).length + 2 by omega)]; rfl
      | 1, _ => rw [if_neg (show ¬ j = (stuff S).length + 2 by omega)]; rfl
      | 2, _ => rw [if_pos (show j = (stuff S).length + 2 by omega)]; simp [hz]
  have hen : ∀ j, j ≤ (stuff S).length + 3 → (Rd.zero.all ((stuff S ++ [true, false, true]).take j)).en = j - (stuff S).length := fun j hj => rd_en F _ j hj
  refine ⟨hlen, by omega, by omega, rfl, fun j hj => ?_, fun j h0 hj => ?_, fun j hj => ?_⟩
  · by_cases h0 : j = 0
    · subst h0
      obtain ⟨l, hl⟩ := h2
      have hf : ∃ t, stuff S = false :: t := by
        have := stuff_first false l
        rw [← hl] at this
        cases hq : stuff S with
        | nil => rw [hq] at this; cases this
        | cons x t =>
          rw [hq] at this
          simp only [List.getElem?_cons_zero, Option.some.injEq] at this
          subst this
          exact ⟨_, rfl⟩
      obtain ⟨t, ht⟩ := hf
      refine ⟨[⟨6, Fm.zero, 0⟩], ?_, fun h => absurd h (by decide)⟩
      rw [hA 1 (by decide), ht]
      rfl
    · rw [hA j (by omega), hA (j + 1) (by omega)]
      refine ⟨[], ?_, fun _ => rfl⟩
      have := hp j (by omega)
      rw [if_neg (by omega)] at this
      have he := hen (j + 1) (by omega)
      unfold M.sample
      rw [if_neg (by show ¬ (1 : Int) = 0; decide), if_pos (by show (1 : Int) = 1; rfl), if_neg (by show ¬ false = true; decide)]
      unfold M.hears
      simp only [this]
      rw [if_neg (by simp), if_pos (by rw [he]; omega)]
  · rw [hA j h0]
    unfold M.drive
    rw [if_neg (by show ¬ (1 : Int) = 0; decide), if_pos (by show (1 : Int) = 1; rfl), if_neg (by show ¬ false = true; decide)]
    show (!((Rd.zero.all ((stuff S ++ [true, false, true]).take j)).en == 1 && (Rd.zero.all ((stuff S ++ [true, false, true]).take j)).right)) = true
    by_cases h : j < (stuff S).length
    · rw [hen j (by omega), show j - (stuff S).length = 0 by omega]
      rfl
    · obtain ⟨k, b, ld, hk, e⟩ := rd_fin F [true, false, true] j (by omega) (by show j ≤ (stuff S).length + 3; omega)
      have hr : (Rd.zero.all ((stuff S ++ [true, false, true]).take j)).right = false := by
        rw [e]
        unfold Rd.right
        rw [fin_in F]
        show (!false && crcN S == 0) = false
        simp [hz]
      rw [hr, Bool.and_false]
      rfl
  · rw [hA j (by omega)]
    have := hp j (by omega)
    rw [if_pos (by omega)] at this
    refine ⟨(M.sample { idleM with st := 1, r := Rd.zero.all ((stuff S ++ [true, false, true]).take j) } (bitAt (stuff S ++ [true, false, true]) j)).1, Prod.ext rfl ?_⟩
    unfold M.sample
    rw [if_neg (by show ¬ (1 : Int) = 0; decide), if_pos (by show (1 : Int) = 1; rfl), if_neg (by show ¬ false = true; decide)]
    unfold M.hears
    simp only [this]
    rw [if_pos (by decide)]
    rfl
theorem and_low (x : Int) (h : 0 ≤ x ∧ x < 65536) : ∃ D : Nat, Go.bits .and .u16 x 32767 = (D : Int) ∧ D < 32768 := by
  have := (u16_ops x.toNat 32767 (by omega) (by decide)).1
  rw [show ((x.toNat : Nat) : Int) = x by omega] at this
  refine ⟨x.toNat &&& 32767, this, ?_⟩
  have := Nat.and_le_right (n := x.toNat) (m := 32767)
  omega
theorem su_body (m : Nat) (z : List Bool) (hz : z.length = 15) : Fr ((false :: (ofN m 11 ++ List.replicate 7 false)) ++ z) (hdr false) 19 := by
  have h := fr_body false m false [] z hz (by decide) (fun h => by cases h)
  have e : bodyL false m false [] = false :: (ofN m 11 ++ List.replicate 7 false) := by
    unfold bodyL arbL
    simp [ofN, fromB]
  have e2 : (bodyL false m false []).length = 19 := by rw [bodyL_length]; rfl
  rw [e2, e] at h
  exact h
theorem su_crc (b : List Bool) (D : Nat) (hD : D < 32768) (hD0 : D ≠ 0) : crcN (b ++ ofN (crcN b ^^^ D) 15) ≠ 0 := by
  have hcl := crcN_lt b
  have hx : crcN b ^^^ D < 2 ^ 15 := Nat.xor_lt_two_pow (n := 15) hcl hD
  intro h
  have := (crc_split _ _ (ofN_length _ _)).1 h
  rw [numN_ofN, Nat.mod_eq_of_lt hx] at this
  have h2 := congrArg (fun z => crcN b ^^^ z) this
  simp only [xor_cancel, Nat.xor_self] at h2
  exact hD0 h2
/-- What the walk needs of the bits. -/
structure SuB (m D : Nat) (O1 P O2 S T : ByteArray) (C : Nat) (A : List Bool) (n : Nat) (st : Nat → M) : Prop where
  o1 : ∀ w, Calls Try.prog 24 #[.int .u64 m, .int .i64 11] w fun x w' => x = .returned (.string O1) ∧ Below w.heap.size w w'
  s1 : O1.size = 11
  p : (⟨#[48]⟩ : ByteArray) ++ O1 ++ ⟨#[48, 48, 48, 48, 48, 48, 48]⟩ = P
  sp : P.size = 19
  c : ∀ w, Calls Try.prog 26 #[.string P] w fun x w' => x = .returned (.int .u16 (C : Int)) ∧ Below w.heap.size w w'
  cl : C < 32768
  o2 : ∀ w, Calls Try.prog 24 #[.int .u64 ((C ^^^ D : Nat) : Int), .int .i64 15] w fun x w' => x = .returned (.string O2) ∧ Below w.heap.size w w'
  s2 : O2.size = 15
  t : ∀ w, Calls Try.prog 25 #[.string (P ++ O2)] w fun x w' => x = .returned (.string S) ∧ Below w.heap.size w w'
  ss : S.size ≤ 100
  a : S ++ ⟨#[49, 48, 49]⟩ = B A
  f : SuF A n st
theorem su_all (m D : Nat) (hm : m < 2048) (hD : D < 32768) (hD0 : D ≠ 0) : ∃ O1 P O2 S T C A n st, SuB m D O1 P O2 S T C A n st := by
  obtain ⟨b, hb⟩ : ∃ b, false :: (ofN m 11 ++ List.replicate 7 false) = b := ⟨_, rfl⟩
  have hbl : b.length = 19 := by rw [← hb]; simp [ofN_length]
  have hcl := crcN_lt b
  have hx : crcN b ^^^ D < 2 ^ 15 := Nat.xor_lt_two_pow (n := 15) hcl hD
  have hF := su_body m (ofN (crcN b ^^^ D) 15) (ofN_length _ _)
  rw [hb] at hF
  have hSl : (b ++ ofN (crcN b ^^^ D) 15).length = 34 := by rw [List.length_append, hbl, ofN_length]
  have hs := stuffL_length (b ++ ofN (crcN b ^^^ D) 15) 0 false
  have hs' : (stuff (b ++ ofN (crcN b ^^^ D) 15)).length ≤ 2 * (b ++ ofN (crcN b ^^^ D) 15).length := hs.2
  refine ⟨B (ofN m 11), B b, B (ofN (crcN b ^^^ D) 15), B (stuff (b ++ ofN (crcN b ^^^ D) 15)), ⟨#[]⟩, crcN b, stuff (b ++ ofN (crcN b ^^^ D) 15) ++ [true, false, true], _, _,
    ⟨fun w => rof_calls m 11 (by omega) (by decide) (by decide) w, by rw [B_size, ofN_length], ?_, by rw [B_size, hbl], fun w => rcrc_calls b (by omega) w, hcl, fun w => rof_calls _ 15 (by omega) (by decide) (by decide) w, by rw [B_size, ofN_length], ?_, ?_, ?_,
      su_facts hF (su_crc b D hD hD0) hSl ⟨_, by rw [← hb]; rfl⟩⟩⟩
  · rw [show (⟨#[48]⟩ : ByteArray) = B [false] from rfl, show (⟨#[48, 48, 48, 48, 48, 48, 48]⟩ : ByteArray) = B (List.replicate 7 false) from rfl, B_append, B_append, ← hb]
    rfl
  · intro w
    have h := rstuff_calls (B (b ++ ofN (crcN b ^^^ D) 15)) (by rw [B_size, hSl]; decide) w
    rw [bitsOf_B] at h
    rw [B_append]
    exact h
  · rw [B_size]; omega
  · rw [show (⟨#[49, 48, 49]⟩ : ByteArray) = B [true, false, true] from rfl, B_append]
set_option maxRecDepth 100000 in
set_option maxHeartbeats 6400000 in
theorem sums_calls (i a : Int) (w : World) (hi : 0 ≤ i ∧ i < 65536) (ha : 0 ≤ a ∧ a < 65536) : Calls Try.prog 8 #[.int .u16 i, .int .u16 a] w fun e w' => e = .returned (.bool true) ∧ Below w.heap.size w w' := by
  obtain ⟨D, hD1, hD2⟩ := and_low a ha
  go_enter Try.func8, Try.ntmps8
  go_wp2_with fail
  with_reducible refine (known_calls _).mono ?_
  rintro y w1 ⟨rfl, hb⟩
  have HB := hid hb
  clear hb
  have hd3 : (0 : Int) ≤ (D : Int) := by omega
  by_cases hD0 : D = 0
  · subst hD0
    go_wp2_with fail
    go_ret
    exact ⟨rfl, HB.out⟩
  · have v0 : ((D : Int) == 0) = false := by simp; omega
    have v1 : ((D : Int) = 0) = False := eq_false (by omega)
    have v2 : (D = 0) = False := eq_false hD0
    obtain ⟨m, hm, hm2⟩ : ∃ m : Nat, i.tmod 2048 = (m : Int) ∧ m < 2048 := by
      have e : i.tmod 2048 = i % 2048 := Int.tmod_eq_emod_of_nonneg hi.1
      exact ⟨(i % 2048).toNat, by rw [e]; omega, by omega⟩
    obtain ⟨O1, P, O2, S, T, C, A, n, st, hS⟩ := su_all m D hm2 hD2 hD0
    have hi1 := hi.1
    have hi2 := hi.2
    have s1 := hS.s1
    have sp := hS.sp
    have s2 := hS.s2
    have ss := hS.ss
    have cl := hS.cl
    have HS := hid hS
    clear hS
    go_wp2_with fail
    with_reducible refine (HS.out.o1 _).mono ?_
    rintro y w2 ⟨rfl, hb⟩
    have HB2 := hid (HB.out.trans (hb.mono HB.out.size))
    clear HB hb
    go_wp2_with fail
    rw [HS.out.p]
    with_reducible refine (HS.out.c _).mono ?_
    rintro y w3 ⟨rfl, hb⟩
    have HB3 := hid (HB2.out.trans (hb.mono HB2.out.size))
    clear HB2 hb
    have hxor : Go.bits .xor .u16 (C : Int) (D : Int) = ((C ^^^ D : Nat) : Int) := (u16_ops C D (by omega) (by omega)).2.2
    have hxb : C ^^^ D < 32768 := Nat.xor_lt_two_pow (n := 15) cl hD2
    generalize hcd : C ^^^ D = CD at *
    go_wp2_with fail
    have ho2 := HS.out.o2 w3
    rw [hcd] at ho2
    with_reducible refine ho2.mono ?_
    clear ho2
    rintro y w4 ⟨rfl, hb⟩
    have HB4 := hid (HB3.out.trans (hb.mono HB3.out.size))
    clear HB3 hb hxor hcd
    go_wp2_with fail
    with_reducible refine (HS.out.t _).mono ?_
    rintro y w5 ⟨rfl, hb⟩
    have HB5 := hid (HB4.out.trans (hb.mono HB4.out.size))
    clear HB4 hb
    go_wp2_with fail
    rw [HS.out.a]
    have hF := HS.out.f
    have hq := idle_calls (w0 := w) HB5.out
    with_reducible refine hq.mono ?_
    clear hq
    rintro y w6 ⟨rfl, h6, _⟩
    have h6 : Nf w w6 w5.heap.size idleM := h6
    rw [← hF.first] at h6
    have H6 := hid h6
    clear h6
    generalize w5.heap.size = g at H6 ⊢
    have hsz := B_size A
    rw [hF.len] at hsz
    have HIX := hid (idx_at A)
    rw [hF.len] at HIX
    have hn1 := hF.lo
    have hn2 := hF.hi
    have HF := hid hF
    clear hF HB5
    go_wp2_with fail
    go_loopw [9] (fun i wr => ∃ j : Nat, j < n ∧ i = .int .i64 j ∧ Nf w wr g (st j)) (fun i _ => n - (intOf i).toNat)
    case atStart => exact ⟨0, by omega, rfl, H6.out⟩
    case round =>
      clear H6
      obtain ⟨j, hj, rfl, HX⟩ := hrel
      have H7 := hid HX
      clear HX
      have u0 : ((j : Int) < n) = True := eq_true (by omega)
      have u1 : decide ((j : Int) < n) = true := decide_eq_true (by omega)
      have u2 : IntKind.i64.wrap ((j : Int) + 1) = ((j + 1 : Nat) : Int) := by rw [IntKind.wrap_i64]; omega
      have u3 : (j < n) = True := eq_true hj
      have u5 : IntKind.i64.wrap ((n : Int) - 1) = (n : Int) - 1 := by rw [IntKind.wrap_i64]; omega
      by_cases h0 : j = 0
      · subst h0
        have hx : ∀ W, (Instr.index 9 (.string (B A)) (.int .i64 0)).run Try.prog W = .ok (.int .u8 ((sg (bitAt A 0)).toNat : Int)) W := HIX.out 0 hj
        have v1 : ((0 : Int) == (n : Int) - 1) = false := by simp; omega
        have v2 : ((0 : Int) = (n : Int) - 1) = False := eq_false (by omega)
        obtain ⟨ev, hs, _⟩ := HF.out.step 0 (by omega)
        have HST := hid hs
        clear hs
        go_wp2_with fail
        with_reducible refine (nf_sample H7.out (bitAt A 0) _ (sg_48b _)).mono ?_
        rintro y w8 ⟨v, rfl, h8, hev, _⟩
        rw [HST.out] at h8 hev
        obtain ⟨b, cap, rfl, _⟩ := evs_slice hev
        have H8 := hid h8
        clear H7 h8 hev hx
        go_wp2_with fail
        exact ⟨⟨1, by omega, rfl, H8.out⟩, by simp [intOf]; omega⟩
      · have hx := HIX.out j hj
        have v1 : decide (0 < (j : Int)) = true := decide_eq_true (by omega)
        have v2 : (0 < (j : Int)) = True := eq_true (by omega)
        have v2' : (0 < j) = True := eq_true (by omega)
        have v2'' : (j = 0) = False := eq_false h0
        have hd := HF.out.drive j (by omega) hj
        have HD := hid hd
        clear hd
        by_cases hl : j + 1 < n
        · have v3 : ((j : Int) == (n : Int) - 1) = false := by simp; omega
          have v4 : ((j : Int) = (n : Int) - 1) = False := eq_false (by omega)
          obtain ⟨ev, hs, he⟩ := HF.out.step j hl
          have HST := hid hs
          have HEV := hid (he (by omega))
          clear hs he
          go_wp2_with fail
          with_reducible refine (nf_drive H7.out).mono ?_
          rintro y w8 ⟨rfl, h8, _⟩
          rw [HD.out, show ((sg true).toNat : Int) = 49 from rfl]
          have H8 := hid h8
          clear H7 h8
          go_wp2_with fail
          with_reducible refine (nf_sample H8.out (bitAt A j) _ (sg_48b _)).mono ?_
          rintro y w9 ⟨v, rfl, h9, hev, _⟩
          rw [HST.out] at h9 hev
          rw [HEV.out] at hev
          obtain ⟨b, cap, rfl, _⟩ := evs_slice hev
          have H9 := hid h9
          clear H8 h9 hev hx
          go_wp2_with fail
          go_roundw
          case rel => exact ⟨j + 1, hl, by go_num, H9.out⟩
          case measure => simp [intOf]; omega
        · have v3 : ((j : Int) == (n : Int) - 1) = true := by simp; omega
          have v4 : ((j : Int) = (n : Int) - 1) = True := eq_true (by omega)
          obtain ⟨e, hs⟩ := HF.out.last j (by omega)
          have HST := hid hs
          clear hs
          go_wp2_with fail
          with_reducible refine (nf_drive H7.out).mono ?_
          rintro y w8 ⟨rfl, h8, _⟩
          rw [HD.out, show ((sg true).toNat : Int) = 49 from rfl]
          have H8 := hid h8
          clear H7 h8
          go_wp2_with fail
          with_reducible refine (nf_sample H8.out (bitAt A j) _ (sg_48b _)).mono ?_
          rintro y w9 ⟨v, rfl, h9, hev, _⟩
          rw [HST.out] at h9 hev
          obtain ⟨b, cap, rfl, _⟩ := evs_one hev
          have H9 := hid h9
          have HE := hid (show E1 w9 b ⟨5, Fm.zero, 40⟩ from ⟨_, cap, hev⟩)
          clear H8 h9 hev hx
          go_wp2_with fail
          go_ret
          exact ⟨rfl, H9.out.nd.below⟩
theorem sums_walk (i a : Int) (w : World) (h1 : (Lit.int .u16 i).wf = true) (h2 : (Lit.int .u16 a).wf = true) : Calls Try.prog 8 #[.int .u16 i, .int .u16 a] w fun e w' => e = .returned (.bool true) ∧ Below w.heap.size w w' :=
  sums_calls i a w (by have := bounds_u16 h1; omega) (by have := bounds_u16 h2; omega)
end Go.Proofs.Ytgmjofcbdimjgaa.MacL
