/- A node that nobody disturbs; a node in a frame, within its bounds. -/
import Derived.Test.YtpkpnaedacefaaaGreatMacNd
namespace Go.Proofs.YtpkpnaedacefaaaGreat.MacW
set_option linter.unusedVariables false
set_option linter.unusedSimpArgs false
open Go Go.Proofs.YtpkpnaedacefaaaGreat.Lib Go.Proofs.YtpkpnaedacefaaaGreat.Bits Go.Proofs.YtpkpnaedacefaaaGreat.BitsW Go.Proofs.YtpkpnaedacefaaaGreat.Frame Go.Proofs.YtpkpnaedacefaaaGreat.FrameW Go.Proofs.YtpkpnaedacefaaaGreat.Code Go.Proofs.YtpkpnaedacefaaaGreat.CodeW Go.Proofs.YtpkpnaedacefaaaGreat.CodeL Go.Proofs.YtpkpnaedacefaaaGreat.Mac
def idleM : M := { M.new with st := 0, left := 0 }
/-- A new node behind i bits 1. -/
def nw (i : Nat) : M := if i < 3 then { M.new with left := 3 - (i : Int) } else idleM
theorem nw_zero : nw 0 = M.new := rfl
theorem nw_idle {i : Nat} (h : 3 ≤ i) : nw i = idleM := if_neg (by omega)
theorem nw_step (i : Nat) : (nw i).sample true = (nw (i + 1), []) := by
  match i with
  | 0 => rfl
  | 1 => rfl
  | 2 => rfl
  | i + 3 => rw [nw_idle (by omega), nw_idle (by omega)]; rfl
theorem wf_zero : Fm.zero.wf := ⟨Int.le_refl 0, by decide⟩
theorem nw_safe (i : Nat) : Safe (nw i) := by
  by_cases h : i < 3
  · have e : nw i = { M.new with left := 3 - (i : Int) } := if_pos h
    rw [e]
    exact ⟨Nat.zero_le 128, by show -1000 ≤ 3 - (i : Int); omega, by show 3 - (i : Int) ≤ 1000; omega, wf_zero, fun h => absurd (show (6 : Int) = 1 from h) (by decide), fun h => absurd (show false = true from h) (by decide)⟩
  · rw [nw_idle (by omega)]
    exact ⟨Nat.zero_le 128, by decide, by decide, wf_zero, fun h => absurd (show (0 : Int) = 1 from h) (by decide), fun h => absurd (show false = true from h) (by decide)⟩
theorem nw_rd (i : Nat) : Rd.Ok (nw i).r := by
  by_cases h : i < 3
  · have e : nw i = { M.new with left := 3 - (i : Int) } := if_pos h
    rw [e]; exact rd_zero_ok
  · rw [nw_idle (by omega)]; exact rd_zero_ok
theorem nw_drive (i : Nat) : (nw i).drive = true := by
  by_cases h : i < 3
  · have e : nw i = { M.new with left := 3 - (i : Int) } := if_pos h
    rw [e]; rfl
  · rw [nw_idle (by omega)]; rfl
/-- The reader within a frame is within its bounds. -/
theorem ack_inv {f : Fm} (h : f.Good) {j : Nat} (hj : j ≤ f.ack.length) : (Rd.zero.all (f.ack.take j)).Inv := rd_inv (f_fr h) (f_zero f) j hj
theorem ack_en {f : Fm} (h : f.Good) {j : Nat} (hj : j ≤ f.ack.length) : (Rd.zero.all (f.ack.take j)).en ≤ 10 := by
  have hl := ack_len f
  have := rd_en (f_fr h) ackT j (by rw [ackT_len]; omega)
  show (Rd.zero.all ((stuff f.S ++ ackT).take j)).en ≤ 10
  rw [this]; omega
theorem ack_ok {f : Fm} (h : f.Good) {j : Nat} (hj : j ≤ f.ack.length) : Rd.Ok (Rd.zero.all (f.ack.take j)) := inv_ok (ack_inv h hj) (by have := ack_en h hj; omega)
/-- A node that sends f, j bits of it on the wire. -/
def sendM (m : M) (f : Fm) (j : Nat) : M := { m with st := 1, r := Rd.zero.all (f.ack.take j), waits := true, f := f, on := true, bits := f.code, arb := f.arb, pos := j }
/-- A node that hears f, j bits of it on the wire. -/
def hearM (m : M) (f : Fm) (j : Nat) : M := { m with st := 1, r := Rd.zero.all (f.ack.take j), on := false }
theorem code_len {f : Fm} (h : f.Good) : f.code.length = f.ack.length := by
  rw [f_code h, List.length_append, List.length_replicate, ack_len]
theorem send_safe {m : M} {f : Fm} {j : Nat} (h : f.Good) (hj : j < f.ack.length) (lo : -1000 ≤ m.left) (hi : m.left ≤ 1000) : Safe (sendM m f j) := by
  have h1 := ack_inv h (Nat.le_of_lt hj)
  have h2 := ack_en h (Nat.le_of_lt hj)
  have h3 := (f_len h).2
  have h4 := ack_len f
  exact ⟨by have := h1.len; show (Rd.zero.all (f.ack.take j)).b.length ≤ 128; omega, lo, hi, h.wf, fun _ => ⟨h1, by show (Rd.zero.all (f.ack.take j)).en ≤ 1000; omega⟩, fun _ => ⟨by show j < f.code.length; rw [code_len h]; exact hj, by show f.code.length ≤ 1000; rw [code_len h]; omega⟩⟩
theorem hear_safe {m : M} {f : Fm} {j : Nat} (h : f.Good) (hj : j ≤ f.ack.length) (lo : -1000 ≤ m.left) (hi : m.left ≤ 1000) (wf : m.f.wf) : Safe (hearM m f j) := by
  have h1 := ack_inv h hj
  have h2 := ack_en h hj
  exact ⟨by have := h1.len; show (Rd.zero.all (f.ack.take j)).b.length ≤ 128; omega, lo, hi, wf, fun _ => ⟨h1, by show (Rd.zero.all (f.ack.take j)).en ≤ 1000; omega⟩, fun h => by cases h⟩
/-- It begins to send, it goes on, it is done. -/
theorem idle_asked {f : Fm} (h : f.Good) : (nw 3).ask f = ({ idleM with waits := true, f := f }, 0) := by
  have := h.ok
  show idleM.ask f = _
  unfold M.ask
  rw [if_neg (by decide), if_neg (by simp [this]), if_neg (by decide)]
theorem send_first (f : Fm) : ({ idleM with waits := true, f := f } : M).sample false = (sendM { idleM with waits := true, f := f } f 1, [⟨6, Fm.zero, 0⟩]) := by
  have : ({ idleM with waits := true, f := f } : M).sample false = ({ idleM with waits := true, f := f } : M).begins true := by unfold M.sample; simp [idleM]
  rw [this, begins_send (f := f)]
  rfl
theorem send_next {m : M} {f : Fm} {j : Nat} (h : f.Good) (hj : j + 1 < f.ack.length) : (sendM m f j).sample f.ack[j] = (sendM m f (j + 1), []) := by
  have := step_send h (m := sendM m f j) (j := j) rfl rfl rfl rfl rfl rfl (by omega)
  rw [if_pos hj] at this
  exact this
theorem send_last {m : M} {f : Fm} {j : Nat} (h : f.Good) (hj : j + 1 = f.ack.length) : (sendM m f j).sample (f.ack[j]'(by omega)) = (M.pauses { (sendM m f j).done with r := Rd.zero.all f.ack, sent := if cOk m.sent m.got then sentC m.sent true else m.sent }, [⟨1, f, 0⟩]) := by
  have := step_send h (m := sendM m f j) (j := j) rfl rfl rfl rfl rfl rfl (by omega)
  rw [if_neg (by omega), List.take_of_length_le (by omega)] at this
  exact this
/-- An idle node that was asked to send f, j bits of it on the wire. -/
def sdM (f : Fm) (j : Nat) : M := if j = 0 then { idleM with waits := true, f := f } else sendM { idleM with waits := true, f := f } f j
theorem sd_step {f : Fm} (h : f.Good) {j : Nat} (hj : j + 1 < f.ack.length) : (sdM f j).sample f.ack[j] = (sdM f (j + 1), if j = 0 then [⟨6, Fm.zero, 0⟩] else []) := by
  have e1 : sdM f (j + 1) = sendM { idleM with waits := true, f := f } f (j + 1) := if_neg (by omega)
  rw [e1]
  by_cases h0 : j = 0
  · subst h0
    rw [ack_get f (by omega), if_pos rfl]
    exact send_first f
  · have e0 : sdM f j = sendM { idleM with waits := true, f := f } f j := if_neg h0
    rw [e0, if_neg h0]
    exact send_next h hj
theorem sd_last {f : Fm} (h : f.Good) {j : Nat} (hj : j + 1 = f.ack.length) : (sdM f j).sample (f.ack[j]'(by omega)) = ({ M.new with r := Rd.zero.all f.ack }, [⟨1, f, 0⟩]) := by
  have hl := (f_len h).1
  have h2 := ack_len f
  have e0 : sdM f j = sendM { idleM with waits := true, f := f } f j := if_neg (by omega)
  rw [e0, send_last h hj]
  rfl
theorem asked_safe {f : Fm} (h : f.Good) : Safe { idleM with waits := true, f := f } :=
  ⟨Nat.zero_le 128, by show (-1000 : Int) ≤ 0; decide, by show (0 : Int) ≤ 1000; decide, h.wf, fun h => absurd (show (0 : Int) = 1 from h) (by decide), fun h => absurd (show false = true from h) (by decide)⟩
theorem sd_safe {f : Fm} (h : f.Good) {j : Nat} (hj : j < f.ack.length) : Safe (sdM f j) := by
  unfold sdM
  split
  · exact asked_safe h
  · exact send_safe h hj (by show (-1000 : Int) ≤ 0; decide) (by show (0 : Int) ≤ 1000; decide)
def bitAt (l : List Bool) (j : Nat) : Bool := l.getD j false
theorem bitAt_eq (l : List Bool) (j : Nat) (h : j < l.length) : bitAt l j = l[j] := by
  unfold bitAt
  rw [List.getD_eq_getElem?_getD, List.getElem?_eq_getElem h]
  rfl
theorem idx_at (l : List Bool) (i : Nat) (h : i < l.length) (W : World) : (Instr.index 9 (.string (B l)) (.int .i64 i)).run Tryz.prog W = .ok (.int .u8 ((sg (bitAt l i)).toNat : Int)) W := idx_bit l i h W
theorem sg_48b (c : Bool) : (((sg c).toNat : Int) == 48) = !c := by cases c <;> rfl
end Go.Proofs.YtpkpnaedacefaaaGreat.MacW
