/- FrameLess (layer 3): the lesser identifier wins; one without Ext wins against each with Ext of the same first bits; data against its request. Conditions: none beyond the types of the arguments. -/
import Derived.Test.YtdjlbdpajnlonaaQFrameLessx1
import Derived.Test.YtdjlbdpajnlonaaFrameB
import Derived.OpenShut
namespace Go.Proofs.Ytdjlbdpajnlonaa.Pure
set_option linter.unusedVariables false
set_option linter.unusedSimpArgs false
open Go Go.RowKit Go.Proofs.Ytdjlbdpajnlonaa.Bits Go.Proofs.Ytdjlbdpajnlonaa.Frame Go.Proofs.Ytdjlbdpajnlonaa.FrameEq Go.Proofs.Ytdjlbdpajnlonaa.Plug Go.Proofs.Ytdjlbdpajnlonaa.QFrameLess Go.Proofs.YtdjlbdpajnlonaaW.PrintWords Go.Proofs.YtdjlbdpajnlonaaW.PrintLast

theorem ok_std (x : Nat) (r : Bool) (h : x < 2048) : okF false (x : Int) r ⟨#[]⟩ = true := by
  unfold okF
  have : ((x : Int) < 2048) := by omega
  have hs : (⟨#[]⟩ : ByteArray).size = 0 := rfl
  simp [this, hs]
theorem ok_ext (x : Nat) (r : Bool) (h : x < 536870912) : okF true (x : Int) r ⟨#[]⟩ = true := by
  unfold okF
  have : ((x : Int) < 536870912) := by omega
  have hs : (⟨#[]⟩ : ByteArray).size = 0 := rfl
  simp [this, hs]
theorem cmp_f {e : Bool} {n : Nat} {r : Bool} {e' : Bool} {n' : Nat} {r' : Bool} (h : okF e (n : Int) r ⟨#[]⟩ = true) (h' : okF e' (n' : Int) r' ⟨#[]⟩ = true) (hn : n < 4294967296) (hn' : n' < 4294967296) :
    frame_Cmp.f e (n : Int) r ⟨#[]⟩ e' (n' : Int) r' ⟨#[]⟩ = some (cmpL (arbL e n r) (arbL e' n' r')) := by
  unfold frame_Cmp.f
  rw [if_pos ⟨⟨by omega, by omega⟩, by omega, by omega⟩, cmpF_ok h h', Int.toNat_natCast, Int.toNat_natCast]
theorem FrameLess : ostinatolaw3_FrameLess.Pure := by
  intro a0 a1 a2 w0 w1 w2
  have b0 := bounds_u32 w0
  have b1 := bounds_u32 w1
  have b2 := bounds_u32 w2
  obtain ⟨x, hx, hx2⟩ : ∃ x : Nat, Int.tmod a0 2048 = (x : Int) ∧ x < 2048 := ⟨(a0 % 2048).toNat, by rw [Int.tmod_eq_emod_of_nonneg b0.1]; omega, by omega⟩
  obtain ⟨y, hy, hy2⟩ : ∃ y : Nat, Int.tmod a1 2048 = (y : Int) ∧ y < 2048 := ⟨(a1 % 2048).toNat, by rw [Int.tmod_eq_emod_of_nonneg b1.1]; omega, by omega⟩
  obtain ⟨l, hl, hl2⟩ : ∃ l : Nat, Int.tmod a2 262144 = (l : Int) ∧ l < 262144 := ⟨(a2 % 262144).toNat, by rw [Int.tmod_eq_emod_of_nonneg b2.1]; omega, by omega⟩
  have hid := (FrameW.id_join x l hx2 hl2).2
  have hmod : ((x : Int) * 262144) % 4294967296 = (x : Int) * 262144 := by omega
  have hdiv : (x * 262144 + l) / 262144 = x := by omega
  refine ⟨2, ?_⟩
  have key : ∀ want : Int, want = (if x < y then -1 else if y < x then 1 else 0) →
      ostinatolaw3_FrameLess.j1 1 want false (x : Int) false ⟨#[]⟩ false (y : Int) false ⟨#[]⟩ true ((x * 262144 + l : Nat) : Int) false ⟨#[]⟩ false (x : Int) true ⟨#[]⟩ = some true := by
    intro want hw
    have c1 := cmp_f (ok_std x false hx2) (ok_std y false hy2) (by omega) (by omega)
    have c2 := cmp_f (ok_std x false hx2) (ok_ext (x * 262144 + l) false (by omega)) (by omega) (by omega)
    have c3 := cmp_f (ok_std x true hx2) (ok_ext (x * 262144 + l) false (by omega)) (by omega) (by omega)
    have c4 := cmp_f (ok_std x false hx2) (ok_std x true hx2) (by omega) (by omega)
    have c5 := cmp_f (ok_ext (x * 262144 + l) false (by omega)) (ok_std x false hx2) (by omega) (by omega)
    rw [cmp_std x y false false hx2 hy2] at c1
    rw [cmp_mixed x _ false false hdiv] at c2
    rw [cmp_mixed x _ true false hdiv] at c3
    rw [cmp_std x x false true hx2 hx2] at c4
    rw [cmp_mixed' x _ false false hdiv] at c5
    have e1 : cmpL [false] [false] = 0 := by decide
    have e2 : cmpL [false] [true] = -1 := by decide
    rw [e1, ← hw] at c1
    rw [if_neg (by omega), if_neg (by omega), e2] at c4
    rw [ostinatolaw3_FrameLess.j1, c1, Option.bind_some, if_pos rfl, c2, Option.bind_some, if_pos rfl, c3, Option.bind_some, if_pos rfl, c4, Option.bind_some, if_pos rfl, c5, Option.bind_some]
    rfl
  unfold ostinatolaw3_FrameLess.f
  rw [show ostinatolaw3_known.f = some true from rfl, Option.bind_some, if_pos rfl, hx, hy, hl, hmod, hid]
  by_cases hlt : x < y
  · rw [if_pos (by omega), ostinatolaw3_FrameLess.j0, if_neg (by omega)]
    exact key _ (by rw [if_pos hlt])
  · rw [if_neg (by omega), ostinatolaw3_FrameLess.j0]
    by_cases hgt : y < x
    · rw [if_pos (by omega)]
      exact key _ (by rw [if_neg hlt, if_pos hgt])
    · rw [if_neg (by omega)]
      exact key _ (by rw [if_neg hlt, if_neg hgt])
end Go.Proofs.Ytdjlbdpajnlonaa.Pure
