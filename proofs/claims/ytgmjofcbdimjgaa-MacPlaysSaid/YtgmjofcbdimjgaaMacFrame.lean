/- A node's frame on the wire. -/
import Derived.Test.YtgmjofcbdimjgaaMacStep
namespace Go.Proofs.Ytgmjofcbdimjgaa.Mac
set_option linter.unusedVariables false
set_option linter.unusedSimpArgs false
open Go Go.Proofs.Ytgmjofcbdimjgaa.Bits Go.Proofs.Ytgmjofcbdimjgaa.BitsW Go.Proofs.Ytgmjofcbdimjgaa.Frame Go.Proofs.Ytgmjofcbdimjgaa.FrameW Go.Proofs.Ytgmjofcbdimjgaa.Code Go.Proofs.Ytgmjofcbdimjgaa.CodeW Go.Proofs.Ytgmjofcbdimjgaa.CodeL
/-- A frame's bits, its sum among them, ahead of those laid between; and laid; and acknowledged. -/
def Fm.S (f : Fm) : List Bool := sumL (bodyL f.e f.i.toNat f.r f.d.data.toList)
def Fm.ack (f : Fm) : List Bool := stuff f.S ++ ackT
/-- A frame that may be sent. -/
structure Fm.Good (f : Fm) : Prop where
  ok : f.ok = true
  wf : f.wf
section
variable {f : Fm}
theorem f_fr (h : f.Good) : Fr f.S (hdr f.e) (bodyL f.e f.i.toNat f.r f.d.data.toList).length := sumL_fr _ _ _ _ (ok_len h.ok) (ok_rtr h.ok)
theorem f_zero (f : Fm) : crcN f.S = 0 := sumL_zero _
theorem f_code (h : f.Good) : f.code = stuff f.S ++ List.replicate 10 true := by
  unfold Fm.code
  rw [if_pos h.ok]
  rfl
theorem f_parse (h : f.Good) : Fm.of (parseL f.S).1 = f := by
  have hp := parse_body f.e f.i.toNat f.r f.d.data.toList (ofN (crcN (bodyL f.e f.i.toNat f.r f.d.data.toList)) 15) (ok_lt h.ok h.wf) (ok_len h.ok) (ok_rtr h.ok)
  rw [show bodyL f.e f.i.toNat f.r f.d.data.toList ++ ofN (crcN (bodyL f.e f.i.toNat f.r f.d.data.toList)) 15 = f.S from rfl] at hp
  rw [hp]
  obtain ⟨e, i, r, d⟩ := f
  have hi : ((i.toNat : Nat) : Int) = i := Int.toNat_of_nonneg h.wf.1
  have hd : (⟨d.data.toList.toArray⟩ : ByteArray) = d := by simp
  unfold Fm.of
  simp only [hi, hd]
theorem f_len (h : f.Good) : 34 ≤ (stuff f.S).length ∧ (stuff f.S).length ≤ 236 := frame_len _ _ _ _ (ok_len h.ok)
theorem ack_len (f : Fm) : f.ack.length = (stuff f.S).length + 10 := app_len
theorem f_ackF (h : f.Good) : ackF f.e f.i f.r f.d = B f.ack := ackF_ok h.ok
theorem stuff_first (c : Bool) (l : List Bool) : (stuff (c :: l))[0]? = some c := by
  unfold stuff
  rw [stuffL_cons]
  have : ∀ b, runK 0 b c ≠ 5 := by intro b; cases b <;> cases c <;> decide
  rw [if_neg (this _)]
  rfl
theorem S_first (f : Fm) : ∃ l, f.S = false :: l := by
  unfold Fm.S sumL bodyL arbL
  split <;> exact ⟨_, rfl⟩
theorem ack_first (f : Fm) : ∃ l, f.ack = false :: l := by
  obtain ⟨l, hl⟩ := S_first f
  have h := stuff_first false l
  rw [← hl] at h
  unfold Fm.ack
  cases hs : stuff f.S with
  | nil => rw [hs] at h; cases h
  | cons x t =>
    rw [hs] at h
    simp only [List.getElem?_cons_zero, Option.some.injEq] at h
    subst h
    exact ⟨_, rfl⟩
/-- The reader behind the first bit. -/
theorem rd_one (f : Fm) : (Rd.zero.push false).1 = Rd.zero.all (f.ack.take 1) := by
  obtain ⟨l, hl⟩ := ack_first f
  rw [hl]
  rfl
theorem f_arb (h : f.Good) : f.arb ≤ (stuff f.S).length := by
  unfold Fm.arb Fm.S sumL bodyL
  rw [if_pos h.ok, List.append_assoc, stuff, stuff, stuffL_append, List.length_append]
  omega
theorem ack_get (f : Fm) (h : 0 < f.ack.length) : f.ack[0] = false := by
  obtain ⟨l, hl⟩ := ack_first f
  simp only [hl, List.getElem_cons_zero]
/-- A frame's own bits, again. -/
theorem step_hear (h : f.Good) {m : M} {j : Nat} (h1 : m.st = 1) (ho : m.on = false) (hr : m.r = Rd.zero.all (f.ack.take j)) (hj : j < f.ack.length) :
    m.sample f.ack[j] = if j + 2 < f.ack.length then ({ m with r := Rd.zero.all (f.ack.take (j + 1)) }, [])
      else ({ m with r := Rd.zero.all (f.ack.take (j + 1)), st := 2, got := if cOk m.sent m.got then gotC m.got true else m.got }, [⟨2, f, 0⟩]) := by
  have := hear_step (f_fr h) (f_zero f) h1 ho hr hj
  rw [f_parse h] at this
  exact this
theorem step_send (h : f.Good) {m : M} {j : Nat} (h1 : m.st = 1) (ho : m.on = true) (hb : m.bits = f.code) (hp : m.pos = j) (ha : m.arb = f.arb) (hr : m.r = Rd.zero.all (f.ack.take j)) (hj : j < f.ack.length) :
    m.sample f.ack[j] = if j + 1 < f.ack.length then ({ m with r := Rd.zero.all (f.ack.take (j + 1)), pos := j + 1 }, [])
      else (M.pauses { m.done with r := Rd.zero.all (f.ack.take (j + 1)), sent := if cOk m.sent m.got then sentC m.sent true else m.sent }, [⟨1, m.f, 0⟩]) :=
  send_step (f_fr h) (f_zero f) h1 ho (by rw [hb, f_code h]) hp (by rw [ha]; exact f_arb h) hr hj
theorem drive_hear (h : f.Good) {m : M} {j : Nat} (h1 : m.st = 1) (ho : m.on = false) (hr : m.r = Rd.zero.all (f.ack.take j)) (hj : j ≤ f.ack.length) : m.drive = !(decide (j + 9 = f.ack.length)) := by
  rw [ack_len] at hj
  rw [hear_drive (f_fr h) (f_zero f) h1 ho hr hj, ack_len]
  congr 1
  rw [Bool.eq_iff_iff]
  simp only [decide_eq_true_eq]
  omega
theorem drive_send (h : f.Good) {m : M} {j : Nat} (h1 : m.st = 1) (ho : m.on = true) (hb : m.bits = f.code) (hp : m.pos = j) (hj : j < f.ack.length) : m.drive = if j + 9 = f.ack.length then true else f.ack[j] := by
  have := send_drive h1 ho (by rw [hb, f_code h]) hp hj
  rw [this]
  have hl := ack_len f
  by_cases h : j = (stuff f.S).length + 1
  · rw [if_pos h, if_pos (by omega)]
  · rw [if_neg h, if_neg (by omega)]
    rfl
/-- A frame begins. -/
theorem begins_hear (m : M) : m.begins false = ({ m with st := 1, r := Rd.zero.all (f.ack.take 1) }, [⟨6, Fm.zero, 0⟩]) := by
  unfold M.begins
  rw [if_neg (by simp), rd_one f]
theorem begins_send (m : M) : m.begins true = ({ m with st := 1, r := Rd.zero.all (f.ack.take 1), on := true, bits := m.f.code, arb := m.f.arb, pos := 1 }, [⟨6, Fm.zero, 0⟩]) := by
  unfold M.begins
  rw [if_pos rfl, rd_one f]
end
end Go.Proofs.Ytgmjofcbdimjgaa.Mac
