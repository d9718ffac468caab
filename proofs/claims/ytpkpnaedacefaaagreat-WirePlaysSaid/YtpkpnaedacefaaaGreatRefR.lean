/- The document's reader (package ostinatoref3): a spec in plain Lean, and the walks that keep to it. -/
import Derived.Test.YtpkpnaedacefaaaGreatRefS
import Derived.Test.YtpkpnaedacefaaaGreatRefP
import Derived.Test.YtpkpnaedacefaaaGreatCodeWalks
import Derived.Test.YtpkpnaedacefaaaGreatCodeFacts

namespace Go.Proofs.YtpkpnaedacefaaaGreat.RefW
set_option linter.unusedVariables false
set_option linter.unusedSimpArgs false
open Go Go.RowKit Go.Proofs.YtpkpnaedacefaaaGreat.Lib Go.Proofs.YtpkpnaedacefaaaGreat.Bits Go.Proofs.YtpkpnaedacefaaaGreat.BitsW Go.Proofs.YtpkpnaedacefaaaGreat.StuffW Go.Proofs.YtpkpnaedacefaaaGreat.Frame Go.Proofs.YtpkpnaedacefaaaGreat.FrameW Go.Proofs.YtpkpnaedacefaaaGreat.Code Go.Proofs.YtpkpnaedacefaaaGreat.CodeW Go.Proofs.YtpkpnaedacefaaaGreat.PrintMore
attribute [local go_sem] max2_int min2_int max_two min_two
/-- A reader's cells. -/
def R3.cells (r : R3) : List Value := [.string (B r.S), .string (B r.plain), .string (B r.run), .int .i64 r.want, .int .i64 r.tail, .bool r.F.1, .int .u32 (r.F.2.1 : Int), .bool r.F.2.2.1, .string ⟨r.F.2.2.2.toArray⟩]
set_option maxRecDepth 100000 in
set_option maxHeartbeats 6400000 in
theorem rright_calls (g : Nat) (r : R3) (w : World) (hb : Blk w g 93 (R3.cells r)) (hp : r.plain.length ≤ 100000) (hw : r.want ≤ 100000) :
    Calls Tryz.prog 45 #[.pointer (some ⟨g, 0, none⟩)] w fun e w' => e = .returned (.bool r.right) ∧ Below w.heap.size w w' := by
  have HC1 := hid (fun (W : World) (h : Below w.heap.size w W) => (hb.below h).cell 1)
  have HC3 := hid (fun (W : World) (h : Below w.heap.size w W) => (hb.below h).cell 3)
  simp only [R3.cells, List.getElem?_cons_zero, List.getElem?_cons_succ] at HC1 HC3
  obtain ⟨X, hX⟩ : ∃ X, X = r.right := ⟨_, rfl⟩
  rw [← hX]
  unfold R3.right at hX
  have HR := hid hX
  clear hX hb
  have hps : (B r.plain).size = r.plain.length := B_size _
  by_cases h0 : 0 ≤ r.want
  · rw [if_pos h0] at HR
    have h0t : ((0 : Int) ≤ r.want) = True := eq_true h0
    by_cases h1 : (r.plain.length : Int) = r.want + 15
    · rw [if_pos h1] at HR
      obtain ⟨k, hk⟩ : ∃ k : Nat, r.want = (k : Int) := ⟨r.want.toNat, by omega⟩
      have hn1 : ∀ W : World, Calls Tryz.prog 65 #[.string ((B r.plain).extract k (B r.plain).size)] W fun e w' => e = .returned (.int .u64 ((numN (r.plain.drop k) : Nat) : Int)) ∧ Below W.heap.size W w' := by
        intro W
        have h := RefW.rnum_calls ((B r.plain).extract k (B r.plain).size) W (by rw [ByteArray.size_extract]; omega)
        refine h.mono fun e w' ⟨h1, h2⟩ => ⟨?_, h2⟩
        rw [h1, bits_extract, bitsOf_B, hps, List.take_of_length_le (by simp), num64_small _ (by rw [List.length_drop]; omega)]
      have hn2 : ∀ W : World, Calls Tryz.prog 66 #[.string ((B r.plain).extract 0 k)] W fun e w' => e = .returned (.int .u16 ((crcN (r.plain.take k) : Nat) : Int)) ∧ Below W.heap.size W w' := by
        intro W
        have h := RefW.rcrcS_calls ((B r.plain).extract 0 k) W (by rw [ByteArray.size_extract]; omega)
        refine h.mono fun e w' ⟨h1, h2⟩ => ⟨?_, h2⟩
        rw [h1, bits_extract, bitsOf_B, List.drop_zero, Nat.sub_zero]
      have hcl := crcN_lt (r.plain.take k)
      rw [hk, Int.toNat_natCast] at HR
      rw [hk] at HC3 h1
      have HN1 := hid hn1
      have HN2 := hid hn2
      generalize numN (r.plain.drop k) = a at *
      generalize crcN (r.plain.take k) = b at *
      have u1 : (0 : Int) ≤ (k : Int) := by omega
      have u2 : (k : Int) ≤ ((B r.plain).size : Int) := by rw [hps]; omega
      have u3 : ((B r.plain).size : Int) = (k : Int) + 15 := by rw [hps]; exact h1
      have u4 : (k : Int) ≤ 100000 := by omega
      have u5 : IntKind.u64.wrap (b : Int) = (b : Int) := wrap_u64 b (by omega)
      have u6 : ((a : Int) == (b : Int)) = (a == b) := by rw [Bool.eq_iff_iff]; simp only [beq_iff_eq]; omega
      have u11 : ((k : Int) ≤ (k : Int) + 15) = True := eq_true (by omega)
      have u7 : IntKind.i64.wrap ((k : Int) + 15) = (k : Int) + 15 := by rw [IntKind.wrap_i64]; omega
      have u8 : (((B r.plain).size : Int) == (k : Int) + 15) = true := beq_iff_eq.2 u3
      have u9 : ((0 : Int) ≤ (k : Int)) = True := eq_true u1
      have u10 : k ≤ (B r.plain).size := by omega
      have HP := hid hps
      clear hn1 hn2 h0 h0t hk hcl hps hp hw
      generalize B r.plain = P at *
      go_enter Tryz.func45, Tryz.ntmps45
      go_wp2_with fail
      refine region_text (by kernel_rfl) (by kernel_rfl) (fun _ _ W => Below w.heap.size w W) (Below.refl _ _).drew ?_
      iterate 43 ((try simp only [Act.put, List.setIfInBounds_toArray, List.set_cons_zero, List.set_cons_succ]); first
        | (refine t_skip (fun _ => rfl) (fun b γ W h => h) ?_)
        | (refine t_call (.int .u64 (a : Int)) (fun _ => rfl) (f := 65) (args := #[.string (P.extract k P.size)]) ?_ (fun b γ W h _ => (HN1.out W).mono (fun e w2 h2 => ⟨h2.1, h.trans (h2.2.mono h.size)⟩)) ?_; · (intro b γ W h _; go_simp; done))
        | (refine t_call (.int .u16 (b : Int)) (fun _ => rfl) (f := 66) (args := #[.string (P.extract 0 k)]) ?_ (fun b γ W h _ => (HN2.out W).mono (fun e w2 h2 => ⟨h2.1, h.trans (h2.2.mono h.size)⟩)) ?_; · (intro b γ W h _; go_simp; done))
        | (refine t_pure ?_ (fun _ => rfl) (fun b γ W h => h) (fun b γ W h _ => ?_) ?_; rotate_left; · (have c1 := HC1.out W h; have c3 := HC3.out W h; go_simp; rfl)))
      refine t_end ?_
      intro bq gq w5 hall HB
      (try simp only [Act.put, List.setIfInBounds_toArray, List.set_cons_zero, List.set_cons_succ])
      clear hall
      go_wp2_with fail
      go_ret
      rw [HR.out]
      exact ⟨rfl, HB⟩
    · rw [if_neg h1] at HR
      have u7 : r.want ≤ 100000 := hw
      have u6 : IntKind.i64.wrap (r.want + 15) = r.want + 15 := by rw [IntKind.wrap_i64]; omega
      have u8 : (((B r.plain).size : Int) == r.want + 15) = false := beq_eq_false_iff_ne.2 (by rw [hps]; exact h1)
      clear h0 h1 hps
      generalize B r.plain = P at *
      generalize r.want = K at *
      go_enter Tryz.func45, Tryz.ntmps45
      go_wp2_with fail
      refine region_text (by kernel_rfl) (by kernel_rfl) (fun _ _ W => Below w.heap.size w W) (Below.refl _ _).drew ?_
      iterate 43 ((try simp only [Act.put, List.setIfInBounds_toArray, List.set_cons_zero, List.set_cons_succ]); first
        | (refine t_skip (fun _ => rfl) (fun b γ W h => h) ?_)
        | (refine t_pure ?_ (fun _ => rfl) (fun b γ W h => h) (fun b γ W h _ => ?_) ?_; rotate_left; · (have c1 := HC1.out W h; have c3 := HC3.out W h; go_simp; rfl)))
      refine t_end ?_
      intro bq gq w5 hall HB
      (try simp only [Act.put, List.setIfInBounds_toArray, List.set_cons_zero, List.set_cons_succ])
      clear hall
      go_wp2_with fail
      go_ret
      rw [HR.out]
      exact ⟨rfl, HB⟩
  · rw [if_neg h0] at HR
    have h0t : ((0 : Int) ≤ r.want) = False := eq_false h0
    clear h0 hps
    generalize B r.plain = P at *
    generalize r.want = K at *
    go_enter Tryz.func45, Tryz.ntmps45
    go_wp2_with fail
    refine region_text (by kernel_rfl) (by kernel_rfl) (fun _ _ W => Below w.heap.size w W) (Below.refl _ _).drew ?_
    iterate 43 ((try simp only [Act.put, List.setIfInBounds_toArray, List.set_cons_zero, List.set_cons_succ]); first
      | (refine t_skip (fun _ => rfl) (fun b γ W h => h) ?_)
      | (refine t_pure ?_ (fun _ => rfl) (fun b γ W h => h) (fun b γ W h _ => ?_) ?_; rotate_left; · (have c1 := HC1.out W h; have c3 := HC3.out W h; go_simp; rfl)))
    refine t_end ?_
    intro bq gq w5 hall HB
    (try simp only [Act.put, List.setIfInBounds_toArray, List.set_cons_zero, List.set_cons_succ])
    clear hall
    go_wp2_with fail
    go_ret
    rw [HR.out]
    exact ⟨rfl, HB⟩

theorem cells_get (r : R3) : (R3.cells r)[0]? = some (.string (B r.S)) ∧ (R3.cells r)[1]? = some (.string (B r.plain)) ∧ (R3.cells r)[2]? = some (.string (B r.run)) ∧ (R3.cells r)[3]? = some (.int .i64 r.want) ∧ (R3.cells r)[4]? = some (.int .i64 r.tail) :=
  ⟨rfl, rfl, rfl, rfl, rfl⟩
set_option maxRecDepth 100000 in
set_option maxHeartbeats 6400000 in
theorem rbehind_calls (g : Nat) (r : R3) (one : Bool) (w : World) (hb : Blk w g 93 (R3.cells r)) (ht : 0 ≤ r.tail) (ht2 : r.tail ≤ 100000) (hp : r.plain.length ≤ 100000) (hw : r.want ≤ 100000) :
    Calls Tryz.prog 91 #[.pointer (some ⟨g, 0, none⟩), .bool one] w fun e w' => e = .returned (.int .i64 ((r.behind one).2 : Int)) ∧ Here w w' g 93 (R3.cells (r.behind one).1) := by
  have hgr : w.grownBy (w.setCell ⟨g, 4, none⟩ (.int .i64 (r.tail + 1))) (some g) := grown_set (grown_refl w (some g)) 4 _
  have H1 : Here w (w.setCell ⟨g, 4, none⟩ (.int .i64 (r.tail + 1))) g 93 (R3.cells { r with tail := r.tail + 1 }) := ⟨hb.set 4 _, hgr⟩
  have c4 := hb.cell 4
  have f4 := hb.frozen 4
  have d4 := H1.blk.cell 4
  have HRI := hid (fun (W : World) (h : Blk W g 93 (R3.cells { r with tail := r.tail + 1 })) => rright_calls g { r with tail := r.tail + 1 } W h hp hw)
  have hrr : R3.right { r with tail := r.tail + 1 } = r.right := rfl
  rw [hrr] at HRI
  simp only [R3.cells, List.getElem?_cons_zero, List.getElem?_cons_succ] at c4 d4
  have HE : (r.behind one).1 = { r with tail := r.tail + 1 } := rfl
  obtain ⟨X, hX⟩ : ∃ X, X = (r.behind one).2 := ⟨_, rfl⟩
  rw [HE, ← hX]
  unfold R3.behind at hX
  simp only at hX
  have HX := hid hX
  have H1 := hid H1
  have ew : IntKind.i64.wrap (r.tail + 1) = r.tail + 1 := by rw [IntKind.wrap_i64]; omega
  clear hX hb hgr HE hrr
  generalize hR : r.right = R at *
  have HC4 := hid (show (R3.cells { r with tail := r.tail + 1 })[4]? = some (.int .i64 (r.tail + 1)) from rfl)
  generalize R3.cells { r with tail := r.tail + 1 } = cs at *
  generalize hT : r.tail = T at *
  clear hR hT
  obtain ⟨b2, hb2⟩ : ∃ b, b = decide (T + 1 = 2) := ⟨_, rfl⟩
  obtain ⟨b3, hb3⟩ : ∃ b, b = decide (T + 1 = 3) := ⟨_, rfl⟩
  obtain ⟨b10, hb10⟩ : ∃ b, b = decide (T + 1 = 10) := ⟨_, rfl⟩
  have k2 : (T + 1 != 2) = !b2 := by rw [hb2]; by_cases h : T + 1 = 2 <;> simp [h]
  have k3 : (T + 1 == 3) = b3 := by rw [hb3]; by_cases h : T + 1 = 3 <;> simp [h]
  have k10 : (T + 1 == 10) = b10 := by rw [hb10]; by_cases h : T + 1 = 10 <;> simp [h]
  have l2 : (T + 1 = 2) = (b2 = true) := by rw [hb2]; simp
  have l3 : (T + 1 = 3) = (b3 = true) := by rw [hb3]; simp
  have l10 : (T + 1 = 10) = (b10 = true) := by rw [hb10]; simp
  have HX2 : X = if ¬ (b2 = true) ∧ one = false then 12 else if b3 = true ∧ R = false then 40 else if b10 = true then 1 else 0 := by
    have := HX.out
    simp only [ne_eq, l2, l3, l10] at this
    exact this
  have HX3 := hid HX2
  clear HX2 HX hb2 hb3 hb10 l2 l3 l10
  have key : ∀ v : Nat, X = v → Hd (X = v) := fun _ h => ⟨h⟩
  cases b2 <;> cases one
  · have HXX := key 12 HX3.out
    clear HX3 key HRI
    go_enter Tryz.func91, Tryz.ntmps91
    go_wp2_with fail
    go_ret
    rw [HXX.out]
    exact ⟨rfl, H1.out⟩
  all_goals
    cases b3
    · cases b10
      · have HXX := key 0 HX3.out
        clear HX3 key HRI
        go_enter Tryz.func91, Tryz.ntmps91
        go_wp2_with fail
        go_ret
        rw [HXX.out]
        exact ⟨rfl, H1.out⟩
      · have HXX := key 1 HX3.out
        clear HX3 key HRI
        go_enter Tryz.func91, Tryz.ntmps91
        go_wp2_with fail
        go_ret
        rw [HXX.out]
        exact ⟨rfl, H1.out⟩
    · cases R
      · have HXX := key 40 HX3.out
        clear HX3 key
        go_enter Tryz.func91, Tryz.ntmps91
        go_wp2_with fail
        refine (HRI.out _ H1.out.blk).mono ?_
        rintro e w2 ⟨rfl, hb2⟩
        have H2' := H1.out.later hb2
        go_wp2_with fail
        go_ret
        rw [HXX.out]
        exact ⟨rfl, H2'⟩
      · cases b10
        · have HXX := key 0 HX3.out
          clear HX3 key
          go_enter Tryz.func91, Tryz.ntmps91
          go_wp2_with fail
          refine (HRI.out _ H1.out.blk).mono ?_
          rintro e w2 ⟨rfl, hb2⟩
          have H2' := H1.out.later hb2
          have d4 := (H2'.blk.cell 4).trans HC4.out
          go_wp2_with fail
          go_ret
          rw [HXX.out]
          exact ⟨rfl, H2'⟩
        · have HXX := key 1 HX3.out
          clear HX3 key
          go_enter Tryz.func91, Tryz.ntmps91
          go_wp2_with fail
          refine (HRI.out _ H1.out.blk).mono ?_
          rintro e w2 ⟨rfl, hb2⟩
          have H2' := H1.out.later hb2
          have d4 := (H2'.blk.cell 4).trans HC4.out
          go_wp2_with fail
          go_ret
          rw [HXX.out]
          exact ⟨rfl, H2'⟩
end Go.Proofs.YtpkpnaedacefaaaGreat.RefW
