/- A node that hears a frame to its end; one that sends, whatever it heard before. -/
import Derived.Test.YtpkpnaedacefaaaGreatMacPhase
namespace Go.Proofs.YtpkpnaedacefaaaGreat.MacW
set_option linter.unusedVariables false
set_option linter.unusedSimpArgs false
open Go Go.Proofs.YtpkpnaedacefaaaGreat.Lib Go.Proofs.YtpkpnaedacefaaaGreat.Bits Go.Proofs.YtpkpnaedacefaaaGreat.BitsW Go.Proofs.YtpkpnaedacefaaaGreat.Frame Go.Proofs.YtpkpnaedacefaaaGreat.FrameW Go.Proofs.YtpkpnaedacefaaaGreat.Code Go.Proofs.YtpkpnaedacefaaaGreat.CodeW Go.Proofs.YtpkpnaedacefaaaGreat.CodeL Go.Proofs.YtpkpnaedacefaaaGreat.Mac
/-- j bits of f were heard: within it, ahead of its last bit, behind it. -/
def hrM (m : M) (f : Fm) (j : Nat) : M :=
  if j + 1 < f.ack.length then hearM m f j else if j + 1 = f.ack.length then { hearM m f j with st := 2 } else { hearM m f (j - 1) with st := 6, left := 3 }
/-- What is told at bit j of it. -/
def hrE (f : Fm) (j : Nat) : List Ev := if j = 0 then [⟨6, Fm.zero, 0⟩] else if j + 2 = f.ack.length then [⟨2, f, 0⟩] else []
theorem hr_mid {m : M} {f : Fm} {j : Nat} (h : j + 1 < f.ack.length) : hrM m f j = hearM m f j := if_pos h
theorem hr_last {m : M} {f : Fm} {j : Nat} (h : j + 1 = f.ack.length) : hrM m f j = { hearM m f j with st := 2 } := by unfold hrM; rw [if_neg (by omega), if_pos h]
theorem hr_end {m : M} {f : Fm} {j : Nat} (h : j = f.ack.length) : hrM m f j = { hearM m f (j - 1) with st := 6, left := 3 } := by unfold hrM; rw [if_neg (by omega), if_neg (by omega)]
theorem ack_long {f : Fm} (h : f.Good) : 44 ≤ f.ack.length ∧ f.ack.length ≤ 246 := by
  have := f_len h; have := ack_len f; omega
theorem hr_first {f : Fm} (h : f.Good) {m : M} (h0 : m.st = 0) (hw : m.waits = false) (ho : m.on = false) : m.sample false = (hrM m f 1, hrE f 0) := by
  have hl := ack_long h
  have : m.sample false = m.begins false := by unfold M.sample; rw [if_pos h0, if_neg (by decide), hw]
  rw [this, begins_hear (f := f), hr_mid (by omega)]
  unfold hearM
  rw [← ho]
  rfl
theorem hr_pause {f : Fm} (h : f.Good) {m : M} (h0 : m.st = 6) (ho : m.on = false) : m.sample false = (hrM m f 1, hrE f 0) := by
  have hl := ack_long h
  have : m.sample false = m.begins false := by
    unfold M.sample
    rw [if_neg (by omega), if_neg (by omega), if_neg (by omega), if_neg (by omega), if_neg (by omega), if_neg (by omega), if_pos h0, if_neg (by decide)]
  rw [this, begins_hear (f := f), hr_mid (by omega)]
  unfold hearM
  rw [← ho]
  rfl
theorem hr_next {f : Fm} (h : f.Good) {m : M} (hc : cOk m.sent m.got = true) (hg : gotC m.got true = m.got) {j : Nat} (hj : j + 1 < f.ack.length) (h1 : 0 < j) :
    (hrM m f j).sample (f.ack[j]'(by omega)) = (hrM m f (j + 1), hrE f j) := by
  rw [hr_mid hj, step_hear h (m := hearM m f j) (j := j) rfl rfl rfl (by omega)]
  by_cases h2 : j + 2 < f.ack.length
  · have e : hrE f j = [] := by unfold hrE; rw [if_neg (by omega), if_neg (by omega)]
    rw [if_pos h2, hr_mid (by omega), e]
    rfl
  · have e : hrE f j = [⟨2, f, 0⟩] := by unfold hrE; rw [if_neg (by omega), if_pos (by omega)]
    rw [if_neg h2, hr_last (by omega), e]
    have e2 : (if cOk (hearM m f j).sent (hearM m f j).got = true then gotC (hearM m f j).got true else (hearM m f j).got) = m.got := by
      show (if cOk m.sent m.got = true then gotC m.got true else m.got) = m.got
      rw [if_pos hc, hg]
    rw [e2]
    rfl
theorem hr_done {f : Fm} (h : f.Good) {m : M} {j : Nat} (hj : j + 1 = f.ack.length) (c : Bool) : (hrM m f j).sample c = (hrM m f (j + 1), hrE f j) := by
  have hl := ack_long h
  rw [hr_last hj, hr_end (by omega)]
  have e : hrE f j = [] := by unfold hrE; rw [if_neg (by omega), if_neg (by omega)]
  rw [e]
  rfl
theorem hr_drive {f : Fm} (h : f.Good) {m : M} {j : Nat} (hj : j < f.ack.length) : (hrM m f j).drive = !(decide (j + 9 = f.ack.length)) := by
  by_cases h2 : j + 1 < f.ack.length
  · rw [hr_mid h2, drive_hear h (m := hearM m f j) (j := j) rfl rfl rfl (by omega)]
  · rw [hr_last (by omega), drive_other (by show (2 : Int) ≠ 0; decide) (by show (2 : Int) ≠ 1; decide) (by show (2 : Int) ≠ 3; decide), decide_eq_false (by omega)]
    rfl
/-- A node that is idle and sends, whatever it heard before. -/
theorem send_begin {m : M} {f : Fm} (h0 : m.st = 0) (hw : m.waits = true) (hf : m.f = f) : m.sample false = (sendM m f 1, [⟨6, Fm.zero, 0⟩]) := by
  have : m.sample false = m.begins true := by unfold M.sample; rw [if_pos h0, if_neg (by decide), hw]
  rw [this, begins_send (f := f)]
  subst hf
  unfold sendM
  rw [← hw]
/-- A node that sends f, j bits of it on the wire: ahead of the first one idle. -/
def sqM (m : M) (f : Fm) (j : Nat) : M := if j = 0 then { m with st := 0, waits := true, f := f, on := false } else sendM m f j
theorem sq_step {f : Fm} (h : f.Good) {m : M} {j : Nat} (hj : j + 1 < f.ack.length) : (sqM m f j).sample (f.ack[j]'(by omega)) = (sqM m f (j + 1), if j = 0 then [⟨6, Fm.zero, 0⟩] else []) := by
  have e1 : sqM m f (j + 1) = sendM m f (j + 1) := if_neg (by omega)
  rw [e1]
  by_cases h0 : j = 0
  · subst h0
    have e : sqM m f 0 = { m with st := 0, waits := true, f := f, on := false } := if_pos rfl
    rw [ack_get f (by omega), if_pos rfl, e, send_begin rfl rfl rfl]
    rfl
  · have e0 : sqM m f j = sendM m f j := if_neg h0
    rw [e0, if_neg h0]
    exact send_next h hj
def sqEnd (m : M) (f : Fm) : M := M.pauses { (sendM m f 0).done with r := Rd.zero.all f.ack, sent := if cOk m.sent m.got then sentC m.sent true else m.sent }
theorem sq_last {f : Fm} (h : f.Good) {m : M} {j : Nat} (hj : j + 1 = f.ack.length) : (sqM m f j).sample (f.ack[j]'(by omega)) = (sqEnd m f, [⟨1, f, 0⟩]) := by
  have hl := ack_long h
  have e0 : sqM m f j = sendM m f j := if_neg (by omega)
  rw [e0, send_last h hj]
  rfl
theorem sq_drive {f : Fm} (h : f.Good) {m : M} {j : Nat} (hj : j < f.ack.length) : (sqM m f j).drive = if j + 9 = f.ack.length then true else f.ack[j] := by
  have hl := ack_long h
  by_cases h0 : j = 0
  · subst h0
    have e : sqM m f 0 = { m with st := 0, waits := true, f := f, on := false } := if_pos rfl
    rw [e, if_neg (by omega), ack_get f (by omega)]
    rfl
  · have e0 : sqM m f j = sendM m f j := if_neg h0
    rw [e0]
    exact drive_send h (m := sendM m f j) rfl rfl rfl rfl hj
end Go.Proofs.YtpkpnaedacefaaaGreat.MacW
