/- A node, step by step, over a frame that is acknowledged. -/
import Derived.Test.YtgmjofcbdimjgaaMacRun
namespace Go.Proofs.Ytgmjofcbdimjgaa.Mac
set_option linter.unusedVariables false
set_option linter.unusedSimpArgs false
open Go Go.Proofs.Ytgmjofcbdimjgaa.Bits Go.Proofs.Ytgmjofcbdimjgaa.BitsW Go.Proofs.Ytgmjofcbdimjgaa.Frame Go.Proofs.Ytgmjofcbdimjgaa.FrameW Go.Proofs.Ytgmjofcbdimjgaa.Code Go.Proofs.Ytgmjofcbdimjgaa.CodeW Go.Proofs.Ytgmjofcbdimjgaa.CodeL
variable {S : List Bool} {H L : Nat}
theorem ackT_len : ackT.length = 10 := rfl
theorem app_len : (stuff S ++ ackT).length = (stuff S).length + 10 := by rw [List.length_append, ackT_len]
/-- What a listener drives. -/
theorem hear_drive (F : Fr S H L) (h0 : crcN S = 0) {m : M} {j : Nat} (h1 : m.st = 1) (ho : m.on = false) (hr : m.r = Rd.zero.all ((stuff S ++ ackT).take j)) (hj : j ≤ (stuff S).length + 10) :
    m.drive = !(decide (j = (stuff S).length + 1)) := by
  unfold M.drive
  rw [if_neg (by omega), if_pos h1, if_neg (by simp [ho]), hr, rd_en F ackT j (by rw [ackT_len]; exact hj)]
  by_cases h : j = (stuff S).length + 1
  · rw [rd_right F h0 j (by omega) hj]
    simp [h]
  · have : ¬ (j - (stuff S).length = 1) := by omega
    simp [h, this]
/-- A bit of a frame that it hears. -/
theorem hear_step (F : Fr S H L) (h0 : crcN S = 0) {m : M} {j : Nat} (h1 : m.st = 1) (ho : m.on = false) (hr : m.r = Rd.zero.all ((stuff S ++ ackT).take j)) (hj : j < (stuff S ++ ackT).length) :
    m.sample (stuff S ++ ackT)[j] = if j + 2 < (stuff S ++ ackT).length then ({ m with r := Rd.zero.all ((stuff S ++ ackT).take (j + 1)) }, [])
      else ({ m with r := Rd.zero.all ((stuff S ++ ackT).take (j + 1)), st := 2, got := if cOk m.sent m.got then gotC m.got true else m.got }, [⟨2, Fm.of (parseL S).1, 0⟩]) := by
  have hp : m.r.push (stuff S ++ ackT)[j] = (Rd.zero.all ((stuff S ++ ackT).take (j + 1)), 0) := by
    rw [hr, all_snoc _ _ j hj]
    exact Prod.ext rfl (rd_push F h0 j hj)
  unfold M.sample
  rw [if_neg (by omega), if_pos h1, if_neg (by simp [ho])]
  unfold M.hears
  rw [hp]
  simp only
  rw [if_neg (by simp), rd_en F ackT (j + 1) (by rw [app_len] at hj; rw [ackT_len]; omega)]
  rw [app_len] at hj ⊢
  by_cases h : j + 2 < (stuff S).length + 10
  · rw [if_pos h, if_pos (by omega)]
  · rw [if_neg h, if_neg (by omega)]
    obtain ⟨k, b, ld, _, e⟩ := rd_fin F ackT (j + 1) (by omega) (by rw [ackT_len]; omega)
    rw [e]
    rfl
theorem code_getD (j : Nat) (hj : j < (stuff S ++ ackT).length) : (stuff S ++ List.replicate 10 true).getD j false = if j = (stuff S).length + 1 then true else (stuff S ++ ackT)[j] := by
  rw [app_len] at hj
  by_cases h : j < (stuff S).length
  · rw [if_neg (by omega), List.getElem_append_left h, List.getD_eq_getElem?_getD, List.getElem?_append_left h, List.getElem?_eq_getElem h]
    rfl
  · obtain ⟨i, rfl⟩ : ∃ i, j = (stuff S).length + i := ⟨j - (stuff S).length, by omega⟩
    have hi : i < 10 := by omega
    rw [List.getElem_append_right (by omega), List.getD_eq_getElem?_getD, List.getElem?_append_right (by omega)]
    simp only [Nat.add_sub_cancel_left]
    match i, hi with
    | 0, _ => rw [if_neg (by omega)]; rfl
    | 1, _ => rw [if_pos rfl]; rfl
    | 2, _ => rw [if_neg (by omega)]; rfl
    | 3, _ => rw [if_neg (by omega)]; rfl
    | 4, _ => rw [if_neg (by omega)]; rfl
    | 5, _ => rw [if_neg (by omega)]; rfl
    | 6, _ => rw [if_neg (by omega)]; rfl
    | 7, _ => rw [if_neg (by omega)]; rfl
    | 8, _ => rw [if_neg (by omega)]; rfl
    | 9, _ => rw [if_neg (by omega)]; rfl
theorem send_drive {m : M} {j : Nat} (h1 : m.st = 1) (ho : m.on = true) (hb : m.bits = stuff S ++ List.replicate 10 true) (hp : m.pos = j) (hj : j < (stuff S ++ ackT).length) :
    m.drive = if j = (stuff S).length + 1 then true else (stuff S ++ ackT)[j] := by
  unfold M.drive
  rw [if_neg (by omega), if_pos h1, if_pos ho, hb, hp, code_getD j hj]
/-- A bit of a frame that it sends. -/
theorem send_step (F : Fr S H L) (h0 : crcN S = 0) {m : M} {j : Nat} (h1 : m.st = 1) (ho : m.on = true) (hb : m.bits = stuff S ++ List.replicate 10 true) (hp : m.pos = j) (ha : m.arb ≤ (stuff S).length)
    (hr : m.r = Rd.zero.all ((stuff S ++ ackT).take j)) (hj : j < (stuff S ++ ackT).length) :
    m.sample (stuff S ++ ackT)[j] = if j + 1 < (stuff S ++ ackT).length then ({ m with r := Rd.zero.all ((stuff S ++ ackT).take (j + 1)), pos := j + 1 }, [])
      else (M.pauses { m.done with r := Rd.zero.all ((stuff S ++ ackT).take (j + 1)), sent := if cOk m.sent m.got then sentC m.sent true else m.sent }, [⟨1, m.f, 0⟩]) := by
  have hpu : (m.r.push (stuff S ++ ackT)[j]).1 = Rd.zero.all ((stuff S ++ ackT).take (j + 1)) := by rw [hr, all_snoc _ _ j hj]
  have hl : m.bits.length = (stuff S).length + 10 := by rw [hb, List.length_append, List.length_replicate]
  have hd : m.bits.getD m.pos false = if j = (stuff S).length + 1 then true else (stuff S ++ ackT)[j] := by rw [hb, hp, code_getD j hj]
  have hk : (stuff S).length + 1 = j → (stuff S ++ ackT)[j] = false := by
    intro e
    subst e
    rw [List.getElem_append_right (by omega)]
    simp only [Nat.add_sub_cancel_left]
    rfl
  unfold M.sample
  rw [if_neg (by omega), if_pos h1, if_pos ho]
  unfold M.sends
  rw [hpu, hd, hl, hp]
  generalize (stuff S ++ ackT)[j] = c at hk
  rw [app_len]
  rw [app_len] at hj
  by_cases hq : j = (stuff S).length + 1
  · have hc := hk hq.symm
    subst hc
    rw [if_neg (by omega), if_neg (by simp), if_neg (by rintro ⟨h, _⟩; omega)]
  · rw [if_neg hq, if_neg (by rintro ⟨rfl, h, _⟩; cases h), if_neg (by rintro ⟨h, _⟩; omega), if_neg (by rintro ⟨_, h⟩; exact h rfl)]
end Go.Proofs.Ytgmjofcbdimjgaa.Mac
