/- The walks of package stuff: a row's last bits alike. -/
import Derived.Test.YtpkpnaedacefaaaGreatBitsA
import Derived.Test.YtpkpnaedacefaaaGreatBitsB
import Derived.Test.YtpkpnaedacefaaaGreatRegion
import Derived.Test.YtpkpnaedacefaaaGreatMem
import Derived.StillTactics
namespace Go.Proofs.YtpkpnaedacefaaaGreat.StuffW
set_option linter.unusedVariables false
set_option linter.unusedSimpArgs false
open Go Go.RowKit Go.Proofs.YtpkpnaedacefaaaGreat.Lib Go.Proofs.YtpkpnaedacefaaaGreat.Bits Go.Proofs.YtpkpnaedacefaaaGreat.BitsW Go.Proofs.YtpkpnaedacefaaaGreat.PrintMore
attribute [local go_sem] max2_int min2_int max_two min_two

set_option maxRecDepth 100000 in
set_option maxHeartbeats 1600000 in
theorem other_calls (b : Bool) (w : World) : Calls Tryz.prog 100 #[.int .u8 ((sg b).toNat : Int)] w fun e w' => e = .returned (.int .u8 ((sg (!b)).toNat : Int)) ∧ w = w' := by
  cases b
  all_goals
    go_enter Tryz.func100, Tryz.ntmps100
    go_wp2
    go_ret
    exact ⟨rfl, rfl⟩

set_option maxRecDepth 100000 in
set_option maxHeartbeats 1600000 in
theorem full_calls (g o : Nat) (T : TypeId) (cs : List Value) (n : Nat) (w : World) (hb : Blk w g T cs) (h1 : cs[o + 1]? = some (.int .i64 n)) :
    Calls Tryz.prog 78 #[.pointer (some ⟨g, o, none⟩)] w fun e w' => e = .returned (.bool ((n : Int) == 5)) ∧ w = w' := by
  have hc := (hb.cell (o + 1)).trans h1
  go_enter Tryz.func78, Tryz.ntmps78
  go_wp2
  go_ret
  exact ⟨rfl, rfl⟩

set_option maxRecDepth 100000 in
set_option maxHeartbeats 1600000 in
theorem runOther_calls (g o : Nat) (T : TypeId) (cs : List Value) (b : Bool) (w : World) (hb : Blk w g T cs) (h1 : cs[o]? = some (.int .u8 ((sg b).toNat : Int))) :
    Calls Tryz.prog 79 #[.pointer (some ⟨g, o, none⟩)] w fun e w' => e = .returned (.int .u8 ((sg (!b)).toNat : Int)) ∧ w = w' := by
  have hc := (hb.cell o).trans h1
  go_enter Tryz.func79, Tryz.ntmps79
  go_wp2_with (go_at_call 100; refine (other_calls _ _).mono ?_; rintro e w' ⟨rfl, rfl⟩)
  go_ret
  exact ⟨rfl, rfl⟩

/-- A run's cells in a block: its last bit, how many there are alike. Where there is none yet, the last one is 0, whatever b says. -/
def IsRun (cs : List Value) (o : Nat) (n : Nat) (b : Bool) : Prop := cs[o]? = some (.int .u8 (if n = 0 then 0 else ((sg b).toNat : Int))) ∧ cs[o + 1]? = some (.int .i64 n)
/-- The cells behind a bit more. -/
def runCells (cs : List Value) (o : Nat) (n : Nat) (b c : Bool) : List Value := (cs.set o (.int .u8 ((sg c).toNat : Int))).set (o + 1) (.int .i64 (runK n b c))
theorem runK_pos (n : Nat) (b c : Bool) : runK n b c ≠ 0 := by unfold runK; split <;> omega
theorem isRun_next (cs : List Value) (o n : Nat) (b c : Bool) (h : IsRun cs o n b) : IsRun (runCells cs o n b c) o (runK n b c) c := by
  have h1 := (List.getElem?_eq_some_iff.1 h.1).1
  have h2 := (List.getElem?_eq_some_iff.1 h.2).1
  have h3 := runK_pos n b c
  unfold IsRun runCells
  rw [if_neg h3]
  constructor
  · rw [List.getElem?_set_ne (by omega), List.getElem?_set_self h1]
  · rw [List.getElem?_set_self (by rw [List.length_set]; exact h2)]
theorem sg_same (b c : Bool) : ((((sg c).toNat : Int)) == ((sg b).toNat : Int)) = (c == b) := by cases b <;> cases c <;> rfl

set_option maxRecDepth 100000 in
set_option maxHeartbeats 1600000 in
theorem runAdd_calls (g o : Nat) (T : TypeId) (cs : List Value) (n : Nat) (b c : Bool) (w : World) (hn : n ≤ 1000) (hb : Blk w g T cs) (hr : IsRun cs o n b) :
    Calls Tryz.prog 80 #[.pointer (some ⟨g, o, none⟩), .int .u8 ((sg c).toNat : Int)] w fun e w' => e = .returned (.tuple #[]) ∧ Blk w' g T (runCells cs o n b c) ∧ w.grownBy w' (some g) := by
  have hc0 := (hb.cell o).trans hr.1
  have hc1 := (hb.cell (o + 1)).trans hr.2
  have hf0 := hb.frozen o
  have hf1 := hb.frozen (o + 1)
  have HR := hid hr
  have hu := Tryz.underlying78
  clear hr
  have fin : ∀ x : Int, x = (runK n b c : Int) → Blk ((w.setCell ⟨g, o, none⟩ (.int .u8 ((sg c).toNat : Int))).setCell ⟨g, o + 1, none⟩ (.int .i64 x)) g T (runCells cs o n b c) := by
    intro x hx
    subst hx
    exact (hb.set o _).set (o + 1) _
  have hFIN := hid fin
  clear fin
  by_cases h0 : n = 0
  · subst h0
    have h2 : runK 0 b c = 1 := by unfold runK; rw [if_neg (by omega)]
    have H2 := hid h2
    clear h2
    go_enter Tryz.func80, Tryz.ntmps80
    go_wp2
    go_end0
    exact ⟨rfl, hFIN.out 1 (by rw [H2.out]; rfl), grown_set (grown_set (grown_refl _ _) _ _) _ _⟩
  · rw [if_neg h0] at hc0
    have hn0 : 0 < (n : Int) := by omega
    have hs := sg_same b c
    by_cases hbc : c = b
    · subst hbc
      have h2 : runK n c c = n + 1 := by unfold runK; rw [if_pos ⟨by omega, rfl⟩]
      have h3 : runCells cs o n c c = cs.set (o + 1) (.int .i64 ((n + 1 : Nat) : Int)) := by
        unfold runCells
        rw [h2]
        congr 1
        apply List.ext_getElem?
        intro j
        have h4 := HR.out.1
        rw [if_neg h0] at h4
        by_cases hj : o = j
        · subst hj
          rw [List.getElem?_set_self (List.getElem?_eq_some_iff.1 h4).1, h4]
        · rw [List.getElem?_set_ne hj]
      have hfin : ∀ x : Int, x = ((n + 1 : Nat) : Int) → Blk (w.setCell ⟨g, o + 1, none⟩ (.int .i64 x)) g T (runCells cs o n c c) := by
        intro x hx
        subst hx
        rw [h3]
        exact hb.set (o + 1) _
      have HF2 := hid hfin
      have hs2 : ((((sg c).toNat : Int)) == ((sg c).toNat : Int)) = true := by rw [hs]; simp
      clear h2 h3 hfin hs
      generalize ((sg c).toNat : Int) = x at *
      go_enter Tryz.func80, Tryz.ntmps80
      go_wp2
      refine bodyPost_ret (results_none (by rfl) _ _ _) rfl ?_
      exact ⟨rfl, HF2.out _ (by omega), grown_set (grown_refl _ _) _ _⟩
    · have hs2 : ((((sg c).toNat : Int)) == ((sg b).toNat : Int)) = false := by rw [hs]; exact beq_eq_false_iff_ne.2 hbc
      have h2 : runK n b c = 1 := by unfold runK; rw [if_neg (fun h => hbc h.2.symm)]
      have H2 := hid h2
      clear h2 hs
      generalize hy : ((sg b).toNat : Int) = y at *
      clear hy
      go_enter Tryz.func80, Tryz.ntmps80
      go_wp2
      go_end0
      exact ⟨rfl, hFIN.out 1 (by rw [H2.out]; rfl), grown_set (grown_set (grown_refl _ _) _ _) _ _⟩
end Go.Proofs.YtpkpnaedacefaaaGreat.StuffW

/- The walks of package stuff, continued: bits laid between. -/
namespace Go.Proofs.YtpkpnaedacefaaaGreat.StuffW
set_option linter.unusedVariables false
set_option linter.unusedSimpArgs false
open Go Go.RowKit Go.Proofs.YtpkpnaedacefaaaGreat.Lib Go.Proofs.YtpkpnaedacefaaaGreat.Bits Go.Proofs.YtpkpnaedacefaaaGreat.BitsW Go.Proofs.YtpkpnaedacefaaaGreat.PrintMore
attribute [local go_sem] max2_int min2_int max_two min_two

set_option maxRecDepth 100000 in
set_option maxHeartbeats 1600000 in
theorem one_calls (s : ByteArray) (i : Nat) (hi : i < (bitsOf s).length) (hs : s.size ≤ 140737488351232) (w : World) :
    Calls Tryz.prog 87 #[.string s, .int .i64 i] w fun e w' => e = .returned (.int .u8 ((sg (bitsOf s)[i]).toNat : Int)) ∧ Below w.heap.size w w' := by
  have hsz := bitsOf_length s
  have hk0 : 0 ≤ (i : Int) := Int.natCast_nonneg _
  have q1 : (i : Int) ≤ (i : Int) + 1 := by omega
  have q2 : (i : Int) + 1 ≤ (s.size : Int) := by omega
  have q3 : 0 ≤ (i : Int) + 1 := by omega
  have hsl : ∀ W : World, (Instr.slice 9 (.string s) (some (.int .i64 (i : Int))) (some (.int .i64 ((i : Int) + 1))) none).run Tryz.prog W = .ok (.string (s.extract i (i + 1))) W := by
    intro W
    have := run_slice_text (P := Tryz.prog) 9 s .i64 .i64 _ _ hk0 q1 q2 Tryz.underlying9 W
    have e2 : ((i : Int) + 1).toNat = i + 1 := by omega
    rw [e2] at this
    exact this
  have hx : bitsOf (s.extract i (i + 1)) = [(bitsOf s)[i]] := by
    have e1 : i + 1 - i = 1 := by omega
    rw [bits_extract, List.drop_eq_getElem_cons hi, e1]
    rfl
  have hxs : (s.extract i (i + 1)).size = 1 := by rw [← bitsOf_length, hx]; rfl
  have ht1 : turnI (bitsOf (s.extract i (i + 1))) 0 = [!(bitsOf s)[i]] := by rw [hx]; rfl
  have ht2 : turnI (bitsOf (B [!(bitsOf s)[i]])) 0 = [(bitsOf s)[i]] := by rw [bitsOf_B]; unfold turnI turn; simp
  generalize (bitsOf s)[i] = b at *
  have HS := hid hxs
  have H1 := hid ht1
  have H2 := hid ht2
  clear hx hxs ht1 ht2 hsz
  go_enter Tryz.func87, Tryz.ntmps87
  go_wp2_with fail
  refine (turn_calls _ 0 _ (by rw [HS.out]; omega)).mono ?_
  rintro e w1 ⟨rfl, hb1⟩
  rw [H1.out]
  go_wp2_with fail
  refine (turn_calls _ 0 _ (by rw [B_size]; simp)).mono ?_
  rintro e w2 ⟨rfl, hb2⟩
  rw [H2.out]
  have hb : Below w.heap.size w w2 := hb1.trans (hb2.mono hb1.size)
  clear hb1 hb2 H1 H2 HS hsl
  cases b
  all_goals
    go_wp2
    go_ret
    exact ⟨rfl, hb⟩

set_option maxRecDepth 100000 in
set_option maxHeartbeats 1600000 in
theorem most_calls (n : Int) (w : World) : Calls Tryz.prog 86 #[.int .i64 n] w fun e w' => e = .returned (.int .i64 (mostI n)) ∧ w = w' := by
  obtain ⟨m, hm⟩ : ∃ m, mostI n = m := ⟨_, rfl⟩
  rw [hm]
  have hcase : (n < 0 ∧ m = 0) ∨ (0 ≤ n ∧ 10000 < n ∧ m = 12499) ∨ (0 ≤ n ∧ n ≤ 10000 ∧ n < 5 ∧ m = n) ∨ (0 ≤ n ∧ n ≤ 10000 ∧ 5 ≤ n ∧ m = n + 1 + (n - 5) / 4) := by
    rw [← hm]; unfold mostI; omega
  have HC := hid hcase
  clear hcase hm
  rcases HC.out with ⟨h1, h2⟩ | ⟨h0, h1, h2⟩ | ⟨h0, h1, h3, h2⟩ | ⟨h0, h1, h3, h2⟩
  all_goals
    have H2 := hid h2
    clear h2 HC
    go_enter Tryz.func86, Tryz.ntmps86
    go_wp2
    go_ret
    exact ⟨ret_num (by rw [H2.out]), rfl⟩

/-- What Stuff has made of the first bits, behind k of them. -/
def stuffTo (l : List Bool) (k : Nat) : List Bool × Nat × Bool := (l.take k).foldl (fun a c => if runK a.2.1 a.2.2 c = 5 then (a.1 ++ [c, !c], 1, !c) else (a.1 ++ [c], runK a.2.1 a.2.2 c, c)) ([], 0, false)
theorem stuffTo_succ (l : List Bool) (k : Nat) (h : k < l.length) : stuffTo l (k + 1) = (if runK (stuffTo l k).2.1 (stuffTo l k).2.2 l[k] = 5 then ((stuffTo l k).1 ++ [l[k], !l[k]], 1, !l[k]) else ((stuffTo l k).1 ++ [l[k]], runK (stuffTo l k).2.1 (stuffTo l k).2.2 l[k], l[k])) := by
  unfold stuffTo
  rw [List.take_succ_eq_append_getElem h, List.foldl_append]
  rfl
theorem stuffFold : ∀ (l : List Bool) (acc : List Bool) (n : Nat) (b : Bool),
    (l.foldl (fun (a : List Bool × Nat × Bool) c => if runK a.2.1 a.2.2 c = 5 then (a.1 ++ [c, !c], 1, !c) else (a.1 ++ [c], runK a.2.1 a.2.2 c, c)) (acc, n, b)).1 = acc ++ stuffL n b l
  | [], acc, n, b => by simp [stuffL]
  | c :: l, acc, n, b => by
    rw [List.foldl_cons]
    unfold stuffL
    by_cases h : runK n b c = 5
    · simp only [h, if_true]
      rw [stuffFold l]
      simp
    · simp only [if_neg h]
      rw [stuffFold l]
      simp
theorem stuffTo_all (l : List Bool) : (stuffTo l l.length).1 = stuff l := by
  unfold stuffTo stuff
  rw [List.take_length, stuffFold]
  simp
theorem stuffTo_bounds (l : List Bool) (k : Nat) (h : k ≤ l.length) : (stuffTo l k).2.1 ≤ 4 ∧ (stuffTo l k).1.length ≤ 2 * k := by
  induction k with
  | zero => exact ⟨Nat.zero_le _, Nat.le_refl _⟩
  | succ k ih =>
    obtain ⟨i1, i2⟩ := ih (by omega)
    rw [stuffTo_succ l k (by omega)]
    by_cases h5 : runK (stuffTo l k).2.1 (stuffTo l k).2.2 l[k] = 5
    · rw [if_pos h5]
      refine ⟨by simp, ?_⟩
      simp; omega
    · rw [if_neg h5]
      have := runK_le (stuffTo l k).2.1 (stuffTo l k).2.2 l[k] (by omega) (by omega)
      refine ⟨by simp only; omega, ?_⟩
      simp; omega

theorem info_run : (Tryz.prog.info? 78).map (fun i => (i.zero, i.size, i.bytes)) = some (some (.agg #[.int .u8 0, .int .i64 0]), 2, 16) := by kernel_rfl

set_option maxRecDepth 100000 in
set_option maxHeartbeats 3200000 in
theorem stuff_calls (s : ByteArray) (hs : s.size ≤ 10000) (w : World) :
    Calls Tryz.prog 56 #[.string s] w fun e w' => e = .returned (.string (B (stuff (bitsOf s)))) ∧ Below w.heap.size w w' := by
  obtain ⟨i0, hi, hz0, hz1, hz2⟩ := info_parts info_u8
  have hsz := bitsOf_length s
  obtain ⟨M, hM⟩ : ∃ M : Nat, mostI (s.size : Int) = (M : Int) := ⟨(mostI (s.size : Int)).toNat, by unfold mostI; omega⟩
  have hM2 : M ≤ 20000 := by have : mostI (s.size : Int) ≤ 20000 := by unfold mostI; omega
                             omega
  have HM := hid hM
  clear hM
  have hu := Tryz.underlying78
  go_enter Tryz.func56, Tryz.ntmps56
  go_wp2_with fail
  refine (most_calls _ _).mono ?_
  rintro e w0 ⟨rfl, rfl⟩
  rw [HM.out]
  go_wp2_with (at_make; refine make_ownB _ rfl _ _ 70 rfl 5 i0 Tryz.underlying70 hi hz0 hz1 hz2 M _ rfl rfl rfl (by omega) ?_; intro w1 v0 hown0 hgrow0)
  have hB0 : Below w.heap.size w w1 := (Below.refl _ _).grown hgrow0 (Nat.le_refl _) (fun k h => by cases h)
  have hs0 : w.heap.size ≤ w1.heap.size := hB0.size
  clear hgrow0
  have hbr : Blk (w1.alloc (.cells #[.int .u8 0, .int .i64 0] 78)) w1.heap.size 78 [.int .u8 0, .int .i64 0] := Blk.new w1 _ _
  have hown1 := hown0.alloc (.cells #[.int .u8 0, .int .i64 0] 78)
  have hB1 : Below w.heap.size w (w1.alloc (.cells #[.int .u8 0, .int .i64 0] 78)) := hB0.alloc hs0 _
  generalize w1.alloc (.cells #[.int .u8 0, .int .i64 0] 78) = w2 at *
  generalize w1.heap.size = g at *
  clear hown0 hB0
  go_loopw [3, 13] (fun v i wr => ∃ k : Nat, k ≤ s.size ∧ i = .int .i64 k ∧ OwnB wr w.heap.size 5 v ((stuffTo (bitsOf s) k).1.map sg) ∧
      (∃ cs, Blk wr g 78 cs ∧ IsRun cs 0 (stuffTo (bitsOf s) k).2.1 (stuffTo (bitsOf s) k).2.2) ∧ Below w.heap.size w wr) (fun _ i _ => s.size - (intOf i).toNat)
  case atStart => exact ⟨0, Nat.zero_le _, rfl, hown1, ⟨_, hbr, ⟨rfl, rfl⟩⟩, hB1⟩
  case round =>
    obtain ⟨k, hk, rfl, hown, ⟨cs, hbk, hrun⟩, hBk⟩ := hrel
    clear hown1 hbr hB1
    by_cases hlt : k < s.size
    · have hl : k < (bitsOf s).length := by omega
      have hnext := stuffTo_succ (bitsOf s) k hl
      obtain ⟨hb1, hb2⟩ := stuffTo_bounds (bitsOf s) k (by omega)
      have hlen : ((stuffTo (bitsOf s) k).1.map sg).length ≤ 20000 := by rw [List.length_map]; omega
      have hlen2 : ∀ c, (((stuffTo (bitsOf s) k).1.map sg) ++ [sg c]).length ≤ 20001 := fun c => by simp; omega
      have hk0 : 0 ≤ (k : Int) := Int.natCast_nonneg _
      have HL := hid hlen
      have HL2 := hid hlen2
      clear hlen hb2 hlen2
      generalize hst : stuffTo (bitsOf s) k = st at *
      clear hst
      obtain ⟨acc, n, b⟩ := st
      simp only at hown hrun hnext hb1 HL HL2
      have HN := hid hnext
      have HR := hid hrun
      clear hnext hrun
      go_wp2_with fail
      refine (one_calls s k hl (by omega) _).mono ?_
      rintro e w3 ⟨rfl, hb3⟩
      have hbk3 := hbk.below hb3
      have hown3 := hown.below hb3
      have hB3 := hBk.trans (hb3.mono hBk.size)
      clear hbk hown hBk hb3
      generalize hcc : (bitsOf s)[k] = c at *
      have HCC := hid hcc
      clear hcc
      go_wp2_with (at_builtin; refine app_byte rfl (.tmp 19) (.tmp 21) 70 rfl w.heap.size 5 i0 Tryz.underlying70 hi hz0 hz1 hz2 _ _ rfl hown3 (sg c) _ rfl rfl (by have := HL.out; omega) hB3.size ?_; intro v4 w4 hown4 hgrow4)
      have hne4 := hown3.ne hbk3 (by decide)
      have hbk4 := (hbk3.alloc (.cells #[.int .u8 ((sg c).toNat : Int)] 5)).grown hgrow4 (fun h => hne4 h.symm)
      have hB4 : Below w.heap.size w w4 := (hown3.alloc (.cells #[.int .u8 ((sg c).toNat : Int)] 5)).grow (hB3.alloc hB3.size _) hgrow4 (Nat.le_refl _) (by have := hB3.size; simp; omega)
      clear hown3 hbk3 hB3 hgrow4 hne4
      refine (runAdd_calls g 0 78 cs n b c _ (by omega) hbk4 HR.out).mono ?_
      rintro e w5 ⟨rfl, hbk5, hgrow5⟩
      have hown5 := hown4.kept hgrow5 (.inr (hown4.ne hbk4 (by decide)))
      have hB5 : Below w.heap.size w w5 := hB4.grown hgrow5 hB4.size (fun k h => by cases h; exact hs0)
      have hr5 := isRun_next cs 0 n b c HR.out
      generalize runCells cs 0 n b c = cs5 at *
      clear hown4 hbk4 hB4 hgrow5
      have hm1 : runK n b c ≤ 5 := by unfold runK; split <;> omega
      have hm2 := runK_pos n b c
      generalize runK n b c = m at *
      have HR5 := hid hr5
      have HM2 := hid hm2
      clear hr5 hm2
      by_cases h5 : m = 5
      · have H5 := hid h5
        have hx : ((m : Int) == 5) = true := by rw [h5]; rfl
        clear h5
        go_wp2_with fail
        refine (full_calls g 0 78 cs5 m _ hbk5 HR5.out.2).mono ?_
        rintro e w6 ⟨rfl, rfl⟩
        rw [hx]
        clear hx
        have ho := HR5.out.1
        rw [if_neg HM2.out] at ho
        have HO := hid ho
        clear ho
        go_wp2_with fail
        refine (runOther_calls g 0 78 cs5 c _ hbk5 HO.out).mono ?_
        rintro e w7 ⟨rfl, rfl⟩
        go_wp2_with (at_builtin; refine app_byte rfl (.tmp 26) (.tmp 28) 70 rfl w.heap.size 5 i0 Tryz.underlying70 hi hz0 hz1 hz2 _ _ rfl hown5 (sg (!c)) _ rfl rfl (by have := HL2.out c; omega) hB5.size ?_; intro v8 w8 hown8 hgrow8)
        have hne8 := hown5.ne hbk5 (by decide)
        have hbk8 := (hbk5.alloc (.cells #[.int .u8 ((sg (!c)).toNat : Int)] 5)).grown hgrow8 (fun h => hne8 h.symm)
        have hB8 : Below w.heap.size w w8 := (hown5.alloc (.cells #[.int .u8 ((sg (!c)).toNat : Int)] 5)).grow (hB5.alloc hB5.size _) hgrow8 (Nat.le_refl _) (by have := hB5.size; simp; omega)
        clear hown5 hbk5 hB5 hgrow8 hne8
        refine (runOther_calls g 0 78 cs5 c _ hbk8 HO.out).mono ?_
        rintro e w9 ⟨rfl, rfl⟩
        go_wp2_with fail
        refine (runAdd_calls g 0 78 cs5 m c (!c) _ (by omega) hbk8 HR5.out).mono ?_
        rintro e w10 ⟨rfl, hbk10, hgrow10⟩
        have hown10 := hown8.kept hgrow10 (.inr (hown8.ne hbk8 (by decide)))
        have hB10 : Below w.heap.size w w10 := hB8.grown hgrow10 hB8.size (fun k h => by cases h; exact hs0)
        have hr10 := isRun_next cs5 0 m c (!c) HR5.out
        have e1 : runK m c (!c) = 1 := by unfold runK; rw [if_neg (by simp)]
        rw [e1] at hr10
        have HR10 := hid hr10
        clear hr10 e1 hown8 hbk8 hB8 hgrow10
        go_wp2_with fail
        go_roundw
        case rel => exact ⟨k + 1, by omega, by go_num, by rw [HN.out, if_pos H5.out]; simpa using hown10, ⟨_, hbk10, by rw [HN.out, if_pos H5.out]; exact HR10.out⟩, hB10⟩
        case measure => simp [intOf]; omega
      · have H5 := hid h5
        have hx : ((m : Int) == 5) = false := beq_eq_false_iff_ne.2 (by omega)
        clear h5
        go_wp2_with fail
        refine (full_calls g 0 78 cs5 m _ hbk5 HR5.out.2).mono ?_
        rintro e w6 ⟨rfl, rfl⟩
        rw [hx]
        clear hx
        go_wp2_with fail
        go_roundw
        case rel => exact ⟨k + 1, by omega, by go_num, by rw [HN.out, if_neg H5.out]; simpa using hown5, ⟨_, hbk5, by rw [HN.out, if_neg H5.out]; exact HR5.out⟩, hB5⟩
        case measure => simp [intOf]; omega
    · have e : k = s.size := by omega
      subst e
      have hall : (stuffTo (bitsOf s) s.size).1 = stuff (bitsOf s) := by rw [← hsz]; exact stuffTo_all _
      rw [hall] at hown
      clear hall hbk hrun
      go_wp2_with (with_reducible refine conv_own rfl (.tmp 33) 70 9 5 rfl Tryz.underlying70 Tryz.underlying5 Tryz.underlying9 w.heap.size 5 _ _ hown rfl ?_)
      go_ret
      exact ⟨ret_text rfl, hBk⟩
end Go.Proofs.YtpkpnaedacefaaaGreat.StuffW

/- The walks of package stuff, continued: bits taken away again. -/
namespace Go.Proofs.YtpkpnaedacefaaaGreat.StuffW
set_option linter.unusedVariables false
set_option linter.unusedSimpArgs false
open Go Go.RowKit Go.Proofs.YtpkpnaedacefaaaGreat.Lib Go.Proofs.YtpkpnaedacefaaaGreat.Bits Go.Proofs.YtpkpnaedacefaaaGreat.BitsW Go.Proofs.YtpkpnaedacefaaaGreat.PrintMore
attribute [local go_sem] max2_int min2_int max_two min_two

/-- A run as a value. -/
def runV (n : Nat) (b : Bool) : Value := .agg #[.int .u8 (if n = 0 then 0 else ((sg b).toNat : Int)), .int .i64 n]
/-- The place of a sixth alike, as Go tells it. -/
def atI (x : Option Nat) : Int := match x with | some i => i | none => -1

end Go.Proofs.YtpkpnaedacefaaaGreat.StuffW

/- The walks of package stuff, the last ones; in the form in which the printed texts ask for them. -/
namespace Go.Proofs.YtpkpnaedacefaaaGreat.StuffW
set_option linter.unusedVariables false
set_option linter.unusedSimpArgs false
open Go Go.RowKit Go.Proofs.YtpkpnaedacefaaaGreat.Lib Go.Proofs.YtpkpnaedacefaaaGreat.Bits Go.Proofs.YtpkpnaedacefaaaGreat.BitsW Go.Proofs.YtpkpnaedacefaaaGreat.PrintMore
attribute [local go_sem] max2_int min2_int max_two min_two

end Go.Proofs.YtpkpnaedacefaaaGreat.StuffW

/- What is true of bits laid between: plain mathematics on lists of Bools. -/
namespace Go.Proofs.YtpkpnaedacefaaaGreat.Bits
set_option linter.unusedVariables false
set_option linter.unusedSimpArgs false
open Go Go.RowKit

/-- What a row that was laid between ends with. -/
def stuffSt : Nat → Bool → List Bool → Nat × Bool
  | n, b, [] => (n, b)
  | n, b, c :: l => if runK n b c = 5 then stuffSt 1 (!c) l else stuffSt (runK n b c) c l
theorem stuffL_append : ∀ (s t : List Bool) (n : Nat) (b : Bool), stuffL n b (s ++ t) = stuffL n b s ++ stuffL (stuffSt n b s).1 (stuffSt n b s).2 t
  | [], t, n, b => by simp [stuffL, stuffSt]
  | c :: s, t, n, b => by
    simp only [List.cons_append]
    rw [stuffL, stuffL, stuffSt]
    by_cases h : runK n b c = 5
    · rw [if_pos h, if_pos h, if_pos h, stuffL_append s t]; rfl
    · rw [if_neg h, if_neg h, if_neg h, stuffL_append s t]; rfl
theorem runK_four (n : Nat) (b c : Bool) (h : n ≤ 4) (h5 : ¬ runK n b c = 5) : 1 ≤ runK n b c ∧ runK n b c ≤ 4 := by
  have := runK_le n b c (by omega) (by omega)
  omega
theorem stuffL_bound : ∀ (l : List Bool) (n : Nat) (b : Bool), 1 ≤ n → n ≤ 4 → (stuffL n b l).length ≤ l.length + (l.length + n - 1) / 4
  | [], _, _, _, _ => by simp [stuffL]
  | c :: l, n, b, h1, h4 => by
    unfold stuffL
    by_cases h5 : runK n b c = 5
    · rw [if_pos h5]
      have := stuffL_bound l 1 (!c) (by omega) (by omega)
      have hn : n = 4 := by unfold runK at h5; split at h5 <;> omega
      simp only [List.length_cons]
      omega
    · rw [if_neg h5]
      have hk := runK_four n b c h4 h5
      have := stuffL_bound l (runK n b c) c hk.1 hk.2
      have hle : runK n b c ≤ n + 1 := by unfold runK; split <;> omega
      simp only [List.length_cons]
      omega
theorem stuff_bound (l : List Bool) (h : l.length ≤ 10000) : ((stuff l).length : Int) ≤ mostI l.length := by
  unfold stuff
  cases l with
  | nil =>
    simp only [stuffL, List.length_nil]
    unfold mostI
    omega
  | cons c l =>
    have e : stuffL 0 false (c :: l) = c :: stuffL 1 c l := by
      have : runK 0 false c = 1 := by unfold runK; rw [if_neg (by omega)]
      rw [stuffL, this, if_neg (by omega)]
    rw [e]
    have := stuffL_bound l 1 c (by omega) (by omega)
    simp only [List.length_cons] at *
    unfold mostI
    omega
theorem stuffL_le : ∀ (l : List Bool) (n : Nat) (b : Bool), l.length ≤ (stuffL n b l).length := fun l n b => (stuffL_length l n b).1
theorem most_add (n : Nat) (h : n ≤ 10000) : mostI n ≤ 12500 := by unfold mostI; omega

/-- What was laid between is taken away again. -/
theorem unstuff_stuffL : ∀ (l : List Bool) (n : Nat) (b : Bool) (i : Nat), n ≤ 4 → (unstuffL n b i (stuffL n b l)).1 = l ∧ (unstuffL n b i (stuffL n b l)).2.2.2 = none
  | [], _, _, _, _ => by simp [stuffL, unstuffL]
  | c :: l, n, b, i, h => by
    unfold stuffL
    by_cases h5 : runK n b c = 5
    · rw [if_pos h5]
      have e : runK 5 c (!c) = 1 := by unfold runK; rw [if_neg (by simp)]
      have hne : ¬ (5 = 5 ∧ c = !c) := by simp
      have ih := unstuff_stuffL l 1 (!c) (i + 1 + 1) (by omega)
      rw [unstuffL, if_neg (by omega), if_neg (by omega), h5, unstuffL, if_neg hne, if_pos rfl, e]
      exact ⟨by rw [ih.1], ih.2⟩
    · rw [if_neg h5]
      have hk := runK_four n b c h h5
      have ih := unstuff_stuffL l (runK n b c) c (i + 1) hk.2
      rw [unstuffL, if_neg (by omega), if_neg (by omega)]
      exact ⟨by rw [ih.1], ih.2⟩
theorem unstuff_stuff (l : List Bool) : (unstuffL 0 false 0 (stuff l)).1 = l ∧ (unstuffL 0 false 0 (stuff l)).2.2.2 = none := unstuff_stuffL l 0 false 0 (by omega)
theorem stuff_inj {a b : List Bool} (h : stuff a = stuff b) : a = b := by rw [← (unstuff_stuff a).1, h, (unstuff_stuff b).1]

/-- What is behind is taken away behind what is ahead. -/
theorem unstuff_append : ∀ (s t : List Bool) (n : Nat) (b : Bool) (i : Nat), (unstuffL n b i s).2.2.2 = none →
    unstuffL n b i (s ++ t) = ((unstuffL n b i s).1 ++ (unstuffL (unstuffL n b i s).2.1 (unstuffL n b i s).2.2.1 (i + s.length) t).1, (unstuffL (unstuffL n b i s).2.1 (unstuffL n b i s).2.2.1 (i + s.length) t).2)
  | [], t, n, b, i, _ => by simp [unstuffL]
  | c :: s, t, n, b, i, h => by
    unfold unstuffL at h
    by_cases h5 : n = 5 ∧ b = c
    · rw [if_pos h5] at h; cases h
    · rw [if_neg h5] at h
      simp only at h
      have ih := unstuff_append s t (runK n b c) c (i + 1) h
      have e : i + 1 + s.length = i + (c :: s).length := by simp; omega
      simp only [List.cons_append]
      rw [unstuffL, if_neg h5, unstuffL, if_neg h5, ih, e]
      by_cases hn : n = 5
      · simp [hn]
      · simp [hn]
/-- What was met ahead is met, whatever is behind it. -/
theorem unstuff_hit : ∀ (s t : List Bool) (n : Nat) (b : Bool) (i : Nat), (unstuffL n b i s).2.2.2.isSome = true → unstuffL n b i (s ++ t) = unstuffL n b i s
  | [], t, n, b, i, h => by simp [unstuffL] at h
  | c :: s, t, n, b, i, h => by
    simp only [List.cons_append]
    unfold unstuffL at h ⊢
    by_cases h5 : n = 5 ∧ b = c
    · rw [if_pos h5, if_pos h5]
    · rw [if_neg h5] at h
      simp only at h
      rw [if_neg h5, if_neg h5, unstuff_hit s t _ _ _ h]
theorem runL_append : ∀ (s t : List Bool) (n : Nat) (b : Bool), runL n b (s ++ t) = runL (runL n b s).1 (runL n b s).2 t
  | [], _, _, _ => rfl
  | c :: s, t, n, b => by simp only [List.cons_append, runL]; exact runL_append s t _ _
/-- While nothing is met, no more than five are alike. -/
theorem unstuff_five : ∀ (l : List Bool) (n : Nat) (b : Bool) (i : Nat), n ≤ 5 → (unstuffL n b i l).2.2.2 = none → (runL n b l).1 ≤ 5
  | [], _, _, _, h, _ => h
  | c :: l, n, b, i, h, hn => by
    unfold unstuffL at hn
    by_cases h5 : n = 5 ∧ b = c
    · rw [if_pos h5] at hn; cases hn
    · rw [if_neg h5] at hn
      exact unstuff_five l _ _ (i + 1) (runK_le n b c h h5).2 hn
/-- A row that begins alike to one in which nothing is met. -/
theorem unstuff_prefix (s t : List Bool) (n : Nat) (b : Bool) (i : Nat) (h : (unstuffL n b i (s ++ t)).2.2.2 = none) : (unstuffL n b i s).2.2.2 = none := by
  cases hs : (unstuffL n b i s).2.2.2 with
  | none => rfl
  | some x =>
    have := unstuff_hit s t n b i (by rw [hs]; rfl)
    rw [this, hs] at h
    cases h
/-- Where no bit is laid between, no five are alike at the end. -/
theorem stuff_none : ∀ (l : List Bool) (n : Nat) (b : Bool), n ≤ 4 → (stuffL n b l).length = l.length → (runL n b l).1 ≤ 4
  | [], _, _, h, _ => h
  | c :: l, n, b, h, hl => by
    unfold stuffL at hl
    by_cases h5 : runK n b c = 5
    · rw [if_pos h5] at hl
      have := stuffL_le l 1 (!c)
      simp at hl
      omega
    · rw [if_neg h5] at hl
      simp at hl
      exact stuff_none l _ _ (runK_four n b c h h5).2 hl
theorem runL_last : ∀ (l : List Bool) (n : Nat) (b c : Bool), (runL n b (l ++ [c])).2 = c := by
  intro l n b c
  rw [runL_append]
  rfl
/-- Bits alike make the run longer. -/
theorem runL_more : ∀ (m n : Nat) (b : Bool), 0 < n → runL n b (List.replicate m b) = (n + m, b)
  | 0, _, _, _ => rfl
  | m + 1, n, b, h => by
    have e : runK n b b = n + 1 := by unfold runK; rw [if_pos ⟨h, rfl⟩]
    rw [List.replicate_succ, runL, e, runL_more m (n + 1) b (by omega)]
    congr 1
    omega
theorem runL_five (n : Nat) (b : Bool) (m : Nat) (c : Bool) : m ≤ (runL n b (List.replicate m c)).1 := by
  cases m with
  | zero => exact Nat.zero_le _
  | succ m =>
    have hp := runK_pos' n b c
    rw [List.replicate_succ, runL, runL_more m _ c hp]
    simp only
    omega
where
  runK_pos' (n : Nat) (b c : Bool) : 0 < runK n b c := by unfold runK; split <;> omega
/-- Six alike are met at the sixth. -/
theorem unstuff_six : ∀ (m n : Nat) (b : Bool) (i : Nat), 1 ≤ n → n ≤ 5 → 6 ≤ n + m → (unstuffL n b i (List.replicate m b)).2.2.2 = some (i + (5 - n))
  | 0, n, _, _, _, _, _ => by omega
  | m + 1, n, b, i, h1, h5, h6 => by
    rw [List.replicate_succ]
    unfold unstuffL
    by_cases h : n = 5
    · rw [if_pos ⟨h, rfl⟩]
      simp [h]
    · rw [if_neg (fun x => h x.1)]
      have e : runK n b b = n + 1 := by unfold runK; rw [if_pos ⟨by omega, rfl⟩]
      simp only
      rw [e, unstuff_six m (n + 1) b (i + 1) (by omega) (by omega) (by omega)]
      congr 1
      omega

/-! ### The opposite bits -/
theorem runK_not (n : Nat) (b c : Bool) : runK n (!b) (!c) = runK n b c := by unfold runK; cases b <;> cases c <;> simp
theorem stuffL_not : ∀ (l : List Bool) (n : Nat) (b : Bool), stuffL n (!b) (l.map not) = (stuffL n b l).map not
  | [], _, _ => rfl
  | c :: l, n, b => by
    simp only [List.map_cons]
    rw [stuffL, stuffL, runK_not]
    by_cases h : runK n b c = 5
    · rw [if_pos h, if_pos h, stuffL_not l 1 (!c)]; simp
    · rw [if_neg h, if_neg h, stuffL_not l _ c]; simp
theorem stuffL_zero (l : List Bool) (b b' : Bool) : stuffL 0 b l = stuffL 0 b' l := by
  cases l with
  | nil => rfl
  | cons c l => rw [stuffL, stuffL]; simp [runK]
theorem stuff_not (l : List Bool) : stuff (l.map not) = (stuff l).map not := by
  unfold stuff
  rw [stuffL_zero _ false (!false), stuffL_not]
theorem unstuffL_not : ∀ (l : List Bool) (n : Nat) (b : Bool) (i : Nat), unstuffL n (!b) i (l.map not) = ((unstuffL n b i l).1.map not, (unstuffL n b i l).2.1, !(unstuffL n b i l).2.2.1, (unstuffL n b i l).2.2.2)
  | [], _, _, _ => rfl
  | c :: l, n, b, i => by
    simp only [List.map_cons]
    rw [unstuffL, unstuffL, runK_not, unstuffL_not l _ c]
    have e : (n = 5 ∧ (!b) = !c) ↔ (n = 5 ∧ b = c) := by cases b <;> cases c <;> simp
    by_cases h : n = 5 ∧ b = c
    · rw [if_pos h, if_pos (e.2 h)]; rfl
    · rw [if_neg h, if_neg (fun x => h (e.1 x))]
      by_cases hn : n = 5
      · simp [hn]
      · simp [hn]
theorem unstuffL_zero (l : List Bool) (b b' : Bool) (i : Nat) (h : l ≠ []) : unstuffL 0 b i l = unstuffL 0 b' i l := by
  cases l with
  | nil => exact absurd rfl h
  | cons c l => rw [unstuffL, unstuffL]; simp [runK]
theorem unstuff_not (l : List Bool) (h : l ≠ []) : unstuffL 0 false 0 (l.map not) = ((unstuffL 0 false 0 l).1.map not, (unstuffL 0 false 0 l).2.1, !(unstuffL 0 false 0 l).2.2.1, (unstuffL 0 false 0 l).2.2.2) := by
  rw [unstuffL_zero _ false (!false) 0 (by simpa using h), unstuffL_not]

/-! ### Rows in which no five are alike -/
/-- 01 or 011, again and again. -/
theorem unstuffL_step (n : Nat) (b c : Bool) (i : Nat) (l : List Bool) (h : n ≠ 5) : unstuffL n b i (c :: l) = (c :: (unstuffL (runK n b c) c (i + 1) l).1, (unstuffL (runK n b c) c (i + 1) l).2) := by
  rw [unstuffL, if_neg (fun x => h x.1), if_neg h]
theorem stuffL_step (n : Nat) (b c : Bool) (l : List Bool) (h : runK n b c ≠ 5) : stuffL n b (c :: l) = c :: stuffL (runK n b c) c l := by
  rw [stuffL, if_neg h]
end Go.Proofs.YtpkpnaedacefaaaGreat.Bits

/- What the plugged functions of layer 2 answer on rows of bits. -/
namespace Go.Proofs.YtpkpnaedacefaaaGreat.Facts
set_option linter.unusedVariables false
set_option linter.unusedSimpArgs false
open Go Go.RowKit Go.Proofs.YtpkpnaedacefaaaGreat.Lib Go.Proofs.YtpkpnaedacefaaaGreat.Bits Go.Proofs.YtpkpnaedacefaaaGreat.BitsW Go.Proofs.YtpkpnaedacefaaaGreat.StuffW
theorem stuff_len (l : List Bool) : (stuff l).length ≤ 2 * l.length := (stuffL_length l 0 false).2
theorem stuff_ge (l : List Bool) : l.length ≤ (stuff l).length := (stuffL_length l 0 false).1
end Go.Proofs.YtpkpnaedacefaaaGreat.Facts

/- The bits alike at the end of a row, place by place; rows in which no five are alike. -/
namespace Go.Proofs.YtpkpnaedacefaaaGreat.Bits
set_option linter.unusedVariables false
set_option linter.unusedSimpArgs false
open Go Go.RowKit Go.Proofs.YtpkpnaedacefaaaGreat.Lib Go.Proofs.YtpkpnaedacefaaaGreat.BitsW Go.Proofs.YtpkpnaedacefaaaGreat.StuffW

theorem runK_same (n : Nat) (b : Bool) (h : 0 < n) : runK n b b = n + 1 := by unfold runK; rw [if_pos ⟨h, rfl⟩]
theorem runK_other (n : Nat) (b c : Bool) (h : b ≠ c) : runK n b c = 1 := by unfold runK; rw [if_neg (fun x => h x.2)]
theorem take_one (s : List Bool) (k : Nat) (h : k < s.length) : s.take (k + 1) = s.take k ++ [s[k]] := by
  rw [List.take_add_one, List.getElem?_eq_getElem h]; rfl
theorem runL_take (s : List Bool) (k : Nat) (h : k < s.length) : runL 0 false (s.take (k + 1)) = (runK (runL 0 false (s.take k)).1 (runL 0 false (s.take k)).2 s[k], s[k]) := by
  rw [take_one s k h, runL_append]; rfl
/-- The bits alike at the end of the first k. -/
theorem runL_spec (s : List Bool) : ∀ k, k ≤ s.length → (runL 0 false (s.take k)).1 ≤ k ∧ (∀ j, j < (runL 0 false (s.take k)).1 → s[k - 1 - j]? = some (runL 0 false (s.take k)).2) ∧
    ((runL 0 false (s.take k)).1 < k → s[k - 1 - (runL 0 false (s.take k)).1]? = some (!(runL 0 false (s.take k)).2)) ∧ (0 < k → 0 < (runL 0 false (s.take k)).1)
  | 0, _ => by simp [runL]
  | k + 1, h => by
    obtain ⟨h1, h2, h3, h4⟩ := runL_spec s k (by omega)
    rw [runL_take s k (by omega)]
    simp only
    generalize hm : (runL 0 false (s.take k)).1 = m at *
    generalize hb : (runL 0 false (s.take k)).2 = b at *
    have hk : s[k]? = some s[k] := List.getElem?_eq_getElem (by omega)
    generalize s[k] = d at *
    by_cases h5 : m > 0 ∧ b = d
    · obtain ⟨h5, rfl⟩ := h5
      rw [runK_same m b h5]
      refine ⟨by omega, fun j hj => ?_, fun hj => ?_, fun _ => by omega⟩
      · cases j with
        | zero => exact hk
        | succ j =>
          have := h2 j (by omega)
          rw [show k + 1 - 1 - (j + 1) = k - 1 - j by omega]
          exact this
      · rw [show k + 1 - 1 - (m + 1) = k - 1 - m by omega]
        exact h3 (by omega)
    · have e : runK m b d = 1 := by unfold runK; rw [if_neg h5]
      rw [e]
      refine ⟨by omega, fun j hj => ?_, fun hj => ?_, fun _ => by omega⟩
      · obtain rfl : j = 0 := by omega
        exact hk
      · have hm0 := h4 (by omega)
        have hne : b ≠ d := fun x => h5 ⟨hm0, x⟩
        have := h2 0 hm0
        rw [show k + 1 - 1 - 1 = k - 1 - 0 by omega, this]
        cases b <;> cases d <;> simp_all
theorem stuffed_none (l : List Bool) : (unstuffL 0 false 0 (stuff l)).2.2.2 = none := (unstuff_stuff l).2
theorem stuffed_run (l : List Bool) (k : Nat) : (runL 0 false ((stuff l).take k)).1 ≤ 5 := by
  refine unstuff_five _ 0 false 0 (by omega) (unstuff_prefix _ ((stuff l).drop k) 0 false 0 ?_)
  rw [List.take_append_drop]
  exact stuffed_none l
theorem stuffed_pre (l : List Bool) (k : Nat) : (unstuffL 0 false 0 ((stuff l).take k)).2.2.2 = none := by
  refine unstuff_prefix _ ((stuff l).drop k) 0 false 0 ?_
  rw [List.take_append_drop]
  exact stuffed_none l
theorem next_val (l : List Bool) : nextL l = if (unstuffL 0 false 0 l).2.2.2.isSome then -2 else if (unstuffL 0 false 0 l).2.1 = 5 then (if (unstuffL 0 false 0 l).2.2.1 then 0 else 1) else -1 := rfl
theorem unstuffL_length : ∀ (l : List Bool) (n : Nat) (b : Bool) (i : Nat), (unstuffL n b i l).1.length ≤ l.length
  | [], _, _, _ => by simp [unstuffL]
  | c :: l, n, b, i => by
    have := unstuffL_length l (runK n b c) c (i + 1)
    unfold unstuffL
    split
    · simp
    · split
      · simp only [List.length_cons]; omega
      · simp only [List.length_cons]; omega
theorem at_none : atI none = -1 := rfl
theorem at_some (i : Nat) : atI (some i) = (i : Int) := rfl
end Go.Proofs.YtpkpnaedacefaaaGreat.Bits

