/- The walks of package stuff, the last ones; in the form in which the printed texts ask for them. -/
import Derived.Test.YtkclgfjfmlogmaaStuffWalksC
import Derived.Test.YtkclgfjfmlogmaaPlugR
namespace Go.Proofs.Ytkclgfjfmlogmaa.StuffW
set_option linter.unusedVariables false
set_option linter.unusedSimpArgs false
open Go Go.RowKit Go.Proofs.Ytkclgfjfmlogmaa.Lib Go.Proofs.Ytkclgfjfmlogmaa.Bits Go.Proofs.Ytkclgfjfmlogmaa.BitsW Go.Proofs.YtkclgfjfmlogmaaW.PrintMore
attribute [local go_sem] max2_int min2_int max_two min_two

set_option maxRecDepth 100000 in
set_option maxHeartbeats 3200000 in
theorem unstuff_calls (s : ByteArray) (hs : s.size ≤ 1000000) (w : World) :
    Calls Try.prog 12 #[.string s] w fun e w' => e = .returned (.tuple #[.string (B (unstuffL 0 false 0 (bitsOf s)).1), .int .i64 (atI (unstuffL 0 false 0 (bitsOf s)).2.2.2)]) ∧ Below w.heap.size w w' := by
  have hu := Try.underlying41
  go_enter Try.func12, Try.ntmps12
  go_wp2_with fail
  refine (unstuffed_calls s hs _).mono ?_
  rintro e w1 ⟨rfl, hb⟩
  unfold runV
  generalize (if (unstuffL 0 false 0 (bitsOf s)).2.1 = 0 then 0 else ((sg (unstuffL 0 false 0 (bitsOf s)).2.2.1).toNat : Int)) = q
  go_wp2_with fail
  go_ret2
  exact ⟨rfl, hb.alloc hb.size _⟩

set_option maxRecDepth 100000 in
set_option maxHeartbeats 3200000 in
theorem next_calls (s : ByteArray) (hs : s.size ≤ 1000000) (w : World) :
    Calls Try.prog 14 #[.string s] w fun e w' => e = .returned (.int .i64 (nextL (bitsOf s))) ∧ Below w.heap.size w w' := by
  have hu := Try.underlying41
  obtain ⟨r, hr⟩ : ∃ r, unstuffL 0 false 0 (bitsOf s) = r := ⟨_, rfl⟩
  obtain ⟨out, n, b, at_⟩ := r
  have hnext : nextL (bitsOf s) = if at_.isSome then -2 else if n = 5 then (if b then 0 else 1) else -1 := by unfold nextL; rw [hr]
  have HN := hid hnext
  have HR := hid hr
  clear hnext hr
  go_enter Try.func14, Try.ntmps14
  go_wp2_with fail
  refine (unstuffed_calls s hs _).mono ?_
  rintro e w1 ⟨rfl, hb⟩
  rw [HR.out]
  unfold runV
  generalize hq : (if n = 0 then 0 else ((sg b).toNat : Int)) = q
  have HQ := hid hq
  clear hq
  cases at_ with
  | some i =>
    have h0 : 0 ≤ (i : Int) := Int.natCast_nonneg _
    simp only [atI]
    go_wp2_with fail
    go_ret
    exact ⟨ret_num (by rw [HN.out]; rfl), hb.alloc hb.size _⟩
  | none =>
    simp only [atI]
    go_wp2_with fail
    have hblk : Blk (w1.alloc (.cells #[.int .u8 q, .int .i64 n] 41)) w1.heap.size 41 [.int .u8 q, .int .i64 n] := Blk.new w1 _ _
    have hB : Below w.heap.size w (w1.alloc (.cells #[.int .u8 q, .int .i64 n] 41)) := hb.alloc hb.size _
    generalize w1.alloc (.cells #[.int .u8 q, .int .i64 n] 41) = w2 at *
    refine (full_calls w1.heap.size 0 41 _ n _ hblk rfl).mono ?_
    rintro e w3 ⟨rfl, rfl⟩
    by_cases h5 : n = 5
    · have hx : ((n : Int) == 5) = true := by rw [h5]; rfl
      have hn0 : ¬ n = 0 := by omega
      have hqb : q = ((sg b).toNat : Int) := by rw [← HQ.out, if_neg hn0]
      have H5 := hid h5
      rw [hx]
      subst hqb
      clear hx h5 hn0
      go_wp2_with fail
      refine (runOther_calls w1.heap.size 0 41 _ b _ hblk rfl).mono ?_
      rintro e w4 ⟨rfl, rfl⟩
      cases b
      all_goals
        go_wp2_with fail
        go_ret
        exact ⟨ret_num (by rw [HN.out, if_neg (by simp), if_pos H5.out]; rfl), hB⟩
    · have hx : ((n : Int) == 5) = false := beq_eq_false_iff_ne.2 (by omega)
      have H5 := hid h5
      rw [hx]
      clear hx h5
      go_wp2_with fail
      go_ret
      exact ⟨ret_num (by rw [HN.out, if_neg (by simp), if_neg H5.out]), hB⟩
end Go.Proofs.Ytkclgfjfmlogmaa.StuffW
namespace Go.Proofs.Ytkclgfjfmlogmaa.Plug
open Go Go.RowKit Go.Proofs.Ytkclgfjfmlogmaa.Lib Go.Proofs.Ytkclgfjfmlogmaa.Bits Go.Proofs.Ytkclgfjfmlogmaa.BitsW Go.Proofs.Ytkclgfjfmlogmaa.StuffW Go.Proofs.YtkclgfjfmlogmaaW.PrintWords

def stuff_Stuff.f (a0 : ByteArray) : Option ByteArray := if a0.size ≤ 10000 then some (B (stuff (bitsOf a0))) else none
theorem stuff_Stuff.calls (a0 : ByteArray) (r : ByteArray) (w : World) (h : stuff_Stuff.f a0 = some r) : Calls Try.prog 11 #[.string a0] w fun e w' => e = .returned (.string r) ∧ Below w.heap.size w w' := by
  unfold stuff_Stuff.f at h
  split at h
  · simp only [Option.some.injEq] at h; subst h
    exact stuff_calls a0 (by assumption) w
  · cases h
def stuff_Unstuff.f (a0 : ByteArray) : Option (ByteArray × Int) := if a0.size ≤ 1000000 then some (B (unstuffL 0 false 0 (bitsOf a0)).1, atI (unstuffL 0 false 0 (bitsOf a0)).2.2.2) else none
theorem stuff_Unstuff.calls (a0 : ByteArray) (r1 : ByteArray) (r2 : Int) (w : World) (h : stuff_Unstuff.f a0 = some (r1, r2)) : Calls Try.prog 12 #[.string a0] w fun e w' => e = .returned (.tuple #[.string r1, .int .i64 r2]) ∧ Below w.heap.size w w' := by
  unfold stuff_Unstuff.f at h
  split at h
  · simp only [Option.some.injEq, Prod.mk.injEq] at h
    obtain ⟨rfl, rfl⟩ := h
    exact unstuff_calls a0 (by assumption) w
  · cases h
def stuff_Next.f (a0 : ByteArray) : Option Int := if a0.size ≤ 1000000 then some (nextL (bitsOf a0)) else none
theorem stuff_Next.calls (a0 : ByteArray) (r : Int) (w : World) (h : stuff_Next.f a0 = some r) : Calls Try.prog 14 #[.string a0] w fun e w' => e = .returned (.int .i64 r) ∧ Below w.heap.size w w' := by
  unfold stuff_Next.f at h
  split at h
  · simp only [Option.some.injEq] at h; subst h
    exact next_calls a0 (by assumption) w
  · cases h
def stuff_Most.f (a0 : Int) : Option Int := some (mostI a0)
theorem stuff_Most.calls (a0 : Int) (r : Int) (w : World) (h : stuff_Most.f a0 = some r) : Calls Try.prog 13 #[.int .i64 a0] w fun e w' => e = .returned (.int .i64 r) ∧ Drawn0 w w' := by
  unfold stuff_Most.f at h
  simp only [Option.some.injEq] at h; subst h
  exact (most_calls a0 w).mono fun _ _ ⟨h1, h2⟩ => ⟨h1, drawn_same h2⟩
end Go.Proofs.Ytkclgfjfmlogmaa.Plug
