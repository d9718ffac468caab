/- The walks of package stuff, continued: bits laid between. -/
import Derived.Test.YtkclgfjfmlogmaaStuffWalks
namespace Go.Proofs.Ytkclgfjfmlogmaa.StuffW
set_option linter.unusedVariables false
set_option linter.unusedSimpArgs false
open Go Go.RowKit Go.Proofs.Ytkclgfjfmlogmaa.Lib Go.Proofs.Ytkclgfjfmlogmaa.Bits Go.Proofs.Ytkclgfjfmlogmaa.BitsW Go.Proofs.YtkclgfjfmlogmaaW.PrintMore
attribute [local go_sem] max2_int min2_int max_two min_two

set_option maxRecDepth 100000 in
set_option maxHeartbeats 1600000 in
theorem one_calls (s : ByteArray) (i : Nat) (hi : i < (bitsOf s).length) (hs : s.size ≤ 140737488351232) (w : World) :
    Calls Try.prog 17 #[.string s, .int .i64 i] w fun e w' => e = .returned (.int .u8 ((sg (bitsOf s)[i]).toNat : Int)) ∧ Below w.heap.size w w' := by
  have hsz := bitsOf_length s
  have hk0 : 0 ≤ (i : Int) := Int.natCast_nonneg _
  have q1 : (i : Int) ≤ (i : Int) + 1 := by omega
  have q2 : (i : Int) + 1 ≤ (s.size : Int) := by omega
  have q3 : 0 ≤ (i : Int) + 1 := by omega
  have hsl : ∀ W : World, (Instr.slice 9 (.string s) (some (.int .i64 (i : Int))) (some (.int .i64 ((i : Int) + 1))) none).run Try.prog W = .ok (.string (s.extract i (i + 1))) W := by
    intro W
    have := run_slice_text (P := Try.prog) 9 s .i64 .i64 _ _ hk0 q1 q2 Try.underlying9 W
    have e2 : ((i : Int) + 1).toNat = i + 1 := by omega
    rw [e2] at this
    exact this
  have hx : bitsOf (s.extract i (i + 1)) = [(bitsOf s)[i]] := by
    have e1 : i + 1 - i = 1 := by omega
    rw [bits_extract, List.drop_eq_getElem_cons hi, e1]
    rfl
  have hxs : (s.extract i (i + 1)).size = 1 := by rw [← bitsOf_length, hx]; rfl
  have ht1 : turnI (bitsOf (s.extract i (i + 1))) 0 = [!(bitsOf s)[i]] := by rw [hx]; rfl
  have ht2 : turnI (bitsOf (B [!(bitsOf s)[i]])) 0 = [(bitsOf s)[i]] := by rw [bitsOf_B]; unfold turnI turn; simp
  generalize (bitsOf s)[i] = b at *
  have HS := hid hxs
  have H1 := hid ht1
  have H2 := hid ht2
  clear hx hxs ht1 ht2 hsz
  go_enter Try.func17, Try.ntmps17
  go_wp2_with fail
  refine (turn_calls _ 0 _ (by rw [HS.out]; omega)).mono ?_
  rintro e w1 ⟨rfl, hb1⟩
  rw [H1.out]
  go_wp2_with fail
  refine (turn_calls _ 0 _ (by rw [B_size]; simp)).mono ?_
  rintro e w2 ⟨rfl, hb2⟩
  rw [H2.out]
  have hb : Below w.heap.size w w2 := hb1.trans (hb2.mono hb1.size)
  clear hb1 hb2 H1 H2 HS hsl
  cases b
  all_goals
    go_wp2
    go_ret
    exact ⟨rfl, hb⟩

set_option maxRecDepth 100000 in
set_option maxHeartbeats 1600000 in
theorem most_calls (n : Int) (w : World) : Calls Try.prog 13 #[.int .i64 n] w fun e w' => e = .returned (.int .i64 (mostI n)) ∧ w = w' := by
  obtain ⟨m, hm⟩ : ∃ m, mostI n = m := ⟨_, rfl⟩
  rw [hm]
  have hcase : (n < 0 ∧ m = 0) ∨ (0 ≤ n ∧ 10000 < n ∧ m = 12499) ∨ (0 ≤ n ∧ n ≤ 10000 ∧ n < 5 ∧ m = n) ∨ (0 ≤ n ∧ n ≤ 10000 ∧ 5 ≤ n ∧ m = n + 1 + (n - 5) / 4) := by
    rw [← hm]; unfold mostI; omega
  have HC := hid hcase
  clear hcase hm
  rcases HC.out with ⟨h1, h2⟩ | ⟨h0, h1, h2⟩ | ⟨h0, h1, h3, h2⟩ | ⟨h0, h1, h3, h2⟩
  all_goals
    have H2 := hid h2
    clear h2 HC
    go_enter Try.func13, Try.ntmps13
    go_wp2
    go_ret
    exact ⟨ret_num (by rw [H2.out]), rfl⟩

/-- What Stuff has made of the first bits, behind k of them. -/
def stuffTo (l : List Bool) (k : Nat) : List Bool × Nat × Bool := (l.take k).foldl (fun a c => if runK a.2.1 a.2.2 c = 5 then (a.1 ++ [c, !c], 1, !c) else (a.1 ++ [c], runK a.2.1 a.2.2 c, c)) ([], 0, false)
theorem stuffTo_succ (l : List Bool) (k : Nat) (h : k < l.length) : stuffTo l (k + 1) = (if runK (stuffTo l k).2.1 (stuffTo l k).2.2 l[k] = 5 then ((stuffTo l k).1 ++ [l[k], !l[k]], 1, !l[k]) else ((stuffTo l k).1 ++ [l[k]], runK (stuffTo l k).2.1 (stuffTo l k).2.2 l[k], l[k])) := by
  unfold stuffTo
  rw [List.take_succ_eq_append_getElem h, List.foldl_append]
  rfl
theorem stuffFold : ∀ (l : List Bool) (acc : List Bool) (n : Nat) (b : Bool),
    (l.foldl (fun (a : List Bool × Nat × Bool) c => if runK a.2.1 a.2.2 c = 5 then (a.1 ++ [c, !c], 1, !c) else (a.1 ++ [c], runK a.2.1 a.2.2 c, c)) (acc, n, b)).1 = acc ++ stuffL n b l
  | [], acc, n, b => by simp [stuffL]
  | c :: l, acc, n, b => by
    rw [List.foldl_cons]
    unfold stuffL
    by_cases h : runK n b c = 5
    · simp only [h, if_true]
      rw [stuffFold l]
      simp
    · simp only [if_neg h]
      rw [stuffFold l]
      simp
theorem stuffTo_all (l : List Bool) : (stuffTo l l.length).1 = stuff l := by
  unfold stuffTo stuff
  rw [List.take_length, stuffFold]
  simp
theorem stuffTo_bounds (l : List Bool) (k : Nat) (h : k ≤ l.length) : (stuffTo l k).2.1 ≤ 4 ∧ (stuffTo l k).1.length ≤ 2 * k := by
  induction k with
  | zero => exact ⟨Nat.zero_le _, Nat.le_refl _⟩
  | succ k ih =>
    obtain ⟨i1, i2⟩ := ih (by omega)
    rw [stuffTo_succ l k (by omega)]
    by_cases h5 : runK (stuffTo l k).2.1 (stuffTo l k).2.2 l[k] = 5
    · rw [if_pos h5]
      refine ⟨by simp, ?_⟩
      simp; omega
    · rw [if_neg h5]
      have := runK_le (stuffTo l k).2.1 (stuffTo l k).2.2 l[k] (by omega) (by omega)
      refine ⟨by simp only; omega, ?_⟩
      simp; omega

theorem info_run : (Try.prog.info? 41).map (fun i => (i.zero, i.size, i.bytes)) = some (some (.agg #[.int .u8 0, .int .i64 0]), 2, 16) := by kernel_rfl

set_option maxRecDepth 100000 in
set_option maxHeartbeats 3200000 in
theorem stuff_calls (s : ByteArray) (hs : s.size ≤ 10000) (w : World) :
    Calls Try.prog 11 #[.string s] w fun e w' => e = .returned (.string (B (stuff (bitsOf s)))) ∧ Below w.heap.size w w' := by
  obtain ⟨i0, hi, hz0, hz1, hz2⟩ := info_parts info_u8
  have hsz := bitsOf_length s
  obtain ⟨M, hM⟩ : ∃ M : Nat, mostI (s.size : Int) = (M : Int) := ⟨(mostI (s.size : Int)).toNat, by unfold mostI; omega⟩
  have hM2 : M ≤ 20000 := by have : mostI (s.size : Int) ≤ 20000 := by unfold mostI; omega
                             omega
  have HM := hid hM
  clear hM
  have hu := Try.underlying41
  go_enter Try.func11, Try.ntmps11
  go_wp2_with fail
  refine (most_calls _ _).mono ?_
  rintro e w0 ⟨rfl, rfl⟩
  rw [HM.out]
  go_wp2_with (at_make; refine make_ownB _ rfl _ _ 32 rfl 5 i0 Try.underlying32 hi hz0 hz1 hz2 M _ rfl rfl rfl (by omega) ?_; intro w1 v0 hown0 hgrow0)
  have hB0 : Below w.heap.size w w1 := (Below.refl _ _).grown hgrow0 (Nat.le_refl _) (fun k h => by cases h)
  have hs0 : w.heap.size ≤ w1.heap.size := hB0.size
  clear hgrow0
  have hbr : Blk (w1.alloc (.cells #[.int .u8 0, .int .i64 0] 41)) w1.heap.size 41 [.int .u8 0, .int .i64 0] := Blk.new w1 _ _
  have hown1 := hown0.alloc (.cells #[.int .u8 0, .int .i64 0] 41)
  have hB1 : Below w.heap.size w (w1.alloc (.cells #[.int .u8 0, .int .i64 0] 41)) := hB0.alloc hs0 _
  generalize w1.alloc (.cells #[.int .u8 0, .int .i64 0] 41) = w2 at *
  generalize w1.heap.size = g at *
  clear hown0 hB0
  go_loopw [3, 13] (fun v i wr => ∃ k : Nat, k ≤ s.size ∧ i = .int .i64 k ∧ OwnB wr w.heap.size 5 v ((stuffTo (bitsOf s) k).1.map sg) ∧
      (∃ cs, Blk wr g 41 cs ∧ IsRun cs 0 (stuffTo (bitsOf s) k).2.1 (stuffTo (bitsOf s) k).2.2) ∧ Below w.heap.size w wr) (fun _ i _ => s.size - (intOf i).toNat)
  case atStart => exact ⟨0, Nat.zero_le _, rfl, hown1, ⟨_, hbr, ⟨rfl, rfl⟩⟩, hB1⟩
  case round =>
    obtain ⟨k, hk, rfl, hown, ⟨cs, hbk, hrun⟩, hBk⟩ := hrel
    clear hown1 hbr hB1
    by_cases hlt : k < s.size
    · have hl : k < (bitsOf s).length := by omega
      have hnext := stuffTo_succ (bitsOf s) k hl
      obtain ⟨hb1, hb2⟩ := stuffTo_bounds (bitsOf s) k (by omega)
      have hlen : ((stuffTo (bitsOf s) k).1.map sg).length ≤ 20000 := by rw [List.length_map]; omega
      have hlen2 : ∀ c, (((stuffTo (bitsOf s) k).1.map sg) ++ [sg c]).length ≤ 20001 := fun c => by simp; omega
      have hk0 : 0 ≤ (k : Int) := Int.natCast_nonneg _
      have HL := hid hlen
      have HL2 := hid hlen2
      clear hlen hb2 hlen2
      generalize hst : stuffTo (bitsOf s) k = st at *
      clear hst
      obtain ⟨acc, n, b⟩ := st
      simp only at hown hrun hnext hb1 HL HL2
      have HN := hid hnext
      have HR := hid hrun
      clear hnext hrun
      go_wp2_with fail
      refine (one_calls s k hl (by omega) _).mono ?_
      rintro e w3 ⟨rfl, hb3⟩
      have hbk3 := hbk.below hb3
      have hown3 := hown.below hb3
      have hB3 := hBk.trans (hb3.mono hBk.size)
      clear hbk hown hBk hb3
      generalize hcc : (bitsOf s)[k] = c at *
      have HCC := hid hcc
      clear hcc
      go_wp2_with (at_builtin; refine app_byte rfl (.tmp 19) (.tmp 21) 32 rfl w.heap.size 5 i0 Try.underlying32 hi hz0 hz1 hz2 _ _ rfl hown3 (sg c) _ rfl rfl (by have := HL.out; omega) hB3.size ?_; intro v4 w4 hown4 hgrow4)
      have hne4 := hown3.ne hbk3 (by decide)
      have hbk4 := (hbk3.alloc (.cells #[.int .u8 ((sg c).toNat : Int)] 5)).grown hgrow4 (fun h => hne4 h.symm)
      have hB4 : Below w.heap.size w w4 := (hown3.alloc (.cells #[.int .u8 ((sg c).toNat : Int)] 5)).grow (hB3.alloc hB3.size _) hgrow4 (Nat.le_refl _) (by have := hB3.size; simp; omega)
      clear hown3 hbk3 hB3 hgrow4 hne4
      refine (runAdd_calls g 0 41 cs n b c _ (by omega) hbk4 HR.out).mono ?_
      rintro e w5 ⟨rfl, hbk5, hgrow5⟩
      have hown5 := hown4.kept hgrow5 (.inr (hown4.ne hbk4 (by decide)))
      have hB5 : Below w.heap.size w w5 := hB4.grown hgrow5 hB4.size (fun k h => by cases h; exact hs0)
      have hr5 := isRun_next cs 0 n b c HR.out
      generalize runCells cs 0 n b c = cs5 at *
      clear hown4 hbk4 hB4 hgrow5
      have hm1 : runK n b c ≤ 5 := by unfold runK; split <;> omega
      have hm2 := runK_pos n b c
      generalize runK n b c = m at *
      have HR5 := hid hr5
      have HM2 := hid hm2
      clear hr5 hm2
      by_cases h5 : m = 5
      · have H5 := hid h5
        have hx : ((m : Int) == 5) = true := by rw [h5]; rfl
        clear h5
        go_wp2_with fail
        refine (full_calls g 0 41 cs5 m _ hbk5 HR5.out.2).mono ?_
        rintro e w6 ⟨rfl, rfl⟩
        rw [hx]
        clear hx
        have ho := HR5.out.1
        rw [if_neg HM2.out] at ho
        have HO := hid ho
        clear ho
        go_wp2_with fail
        refine (runOther_calls g 0 41 cs5 c _ hbk5 HO.out).mono ?_
        rintro e w7 ⟨rfl, rfl⟩
        go_wp2_with (at_builtin; refine app_byte rfl (.tmp 26) (.tmp 28) 32 rfl w.heap.size 5 i0 Try.underlying32 hi hz0 hz1 hz2 _ _ rfl hown5 (sg (!c)) _ rfl rfl (by have := HL2.out c; omega) hB5.size ?_; intro v8 w8 hown8 hgrow8)
        have hne8 := hown5.ne hbk5 (by decide)
        have hbk8 := (hbk5.alloc (.cells #[.int .u8 ((sg (!c)).toNat : Int)] 5)).grown hgrow8 (fun h => hne8 h.symm)
        have hB8 : Below w.heap.size w w8 := (hown5.alloc (.cells #[.int .u8 ((sg (!c)).toNat : Int)] 5)).grow (hB5.alloc hB5.size _) hgrow8 (Nat.le_refl _) (by have := hB5.size; simp; omega)
        clear hown5 hbk5 hB5 hgrow8 hne8
        refine (runOther_calls g 0 41 cs5 c _ hbk8 HO.out).mono ?_
        rintro e w9 ⟨rfl, rfl⟩
        go_wp2_with fail
        refine (runAdd_calls g 0 41 cs5 m c (!c) _ (by omega) hbk8 HR5.out).mono ?_
        rintro e w10 ⟨rfl, hbk10, hgrow10⟩
        have hown10 := hown8.kept hgrow10 (.inr (hown8.ne hbk8 (by decide)))
        have hB10 : Below w.heap.size w w10 := hB8.grown hgrow10 hB8.size (fun k h => by cases h; exact hs0)
        have hr10 := isRun_next cs5 0 m c (!c) HR5.out
        have e1 : runK m c (!c) = 1 := by unfold runK; rw [if_neg (by simp)]
        rw [e1] at hr10
        have HR10 := hid hr10
        clear hr10 e1 hown8 hbk8 hB8 hgrow10
        go_wp2_with fail
        go_roundw
        case rel => exact ⟨k + 1, by omega, by go_num, by rw [HN.out, if_pos H5.out]; simpa using hown10, ⟨_, hbk10, by rw [HN.out, if_pos H5.out]; exact HR10.out⟩, hB10⟩
        case measure => simp [intOf]; omega
      · have H5 := hid h5
        have hx : ((m : Int) == 5) = false := beq_eq_false_iff_ne.2 (by omega)
        clear h5
        go_wp2_with fail
        refine (full_calls g 0 41 cs5 m _ hbk5 HR5.out.2).mono ?_
        rintro e w6 ⟨rfl, rfl⟩
        rw [hx]
        clear hx
        go_wp2_with fail
        go_roundw
        case rel => exact ⟨k + 1, by omega, by go_num, by rw [HN.out, if_neg H5.out]; simpa using hown5, ⟨_, hbk5, by rw [HN.out, if_neg H5.out]; exact HR5.out⟩, hB5⟩
        case measure => simp [intOf]; omega
    · have e : k = s.size := by omega
      subst e
      have hall : (stuffTo (bitsOf s) s.size).1 = stuff (bitsOf s) := by rw [← hsz]; exact stuffTo_all _
      rw [hall] at hown
      clear hall hbk hrun
      go_wp2_with (with_reducible refine conv_own rfl (.tmp 33) 32 9 5 rfl Try.underlying32 Try.underlying5 Try.underlying9 w.heap.size 5 _ _ hown rfl ?_)
      go_ret
      exact ⟨ret_text rfl, hBk⟩
end Go.Proofs.Ytkclgfjfmlogmaa.StuffW
