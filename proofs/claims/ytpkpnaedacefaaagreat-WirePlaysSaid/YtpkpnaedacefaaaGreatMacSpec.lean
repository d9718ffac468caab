/- A node on the wire, bit by bit, in plain Lean, with no program in sight. -/
import Derived.Test.YtpkpnaedacefaaaGreatCodeLaws
namespace Go.Proofs.YtpkpnaedacefaaaGreat.Mac
set_option linter.unusedVariables false
set_option linter.unusedSimpArgs false
open Go Go.Proofs.YtpkpnaedacefaaaGreat.Bits Go.Proofs.YtpkpnaedacefaaaGreat.BitsW Go.Proofs.YtpkpnaedacefaaaGreat.Frame Go.Proofs.YtpkpnaedacefaaaGreat.Code Go.Proofs.YtpkpnaedacefaaaGreat.CodeW

/-- A frame: Ext, ID, RTR, Data. -/
structure Fm where
  e : Bool
  i : Int
  r : Bool
  d : ByteArray
def Fm.zero : Fm := ⟨false, 0, false, ⟨#[]⟩⟩
def Fm.ok (f : Fm) : Bool := okF f.e f.i f.r f.d
def Fm.wf (f : Fm) : Prop := 0 ≤ f.i ∧ f.i < 4294967296
/-- Its bits on the wire; how many of them are held against others'. -/
def Fm.code (f : Fm) : List Bool := if f.ok then codeL f.e f.i.toNat f.r f.d.data.toList else []
def Fm.arb (f : Fm) : Nat := (stuff (if f.ok then arbL f.e f.i.toNat f.r else [])).length
def Fm.of (p : Bool × Nat × Bool × List UInt8) : Fm := ⟨p.1, (p.2.1 : Int), p.2.2.1, ⟨p.2.2.2.toArray⟩⟩
/-- What a node tells. -/
structure Ev where
  kind : Int
  f : Fm
  err : Int
/-- Counters of errors. -/
def cOk (s g : Int) : Bool := decide (0 ≤ s) && (decide (s ≤ 1000) && (decide (0 ≤ g) && decide (g ≤ 1000)))
def sentC (s : Int) (ok : Bool) : Int := if ok then max (s - 1) 0 else min (s + 8) 1000
def gotC (g : Int) (ok : Bool) : Int := if ok then (if 127 < g then 120 else max (g - 1) 0) else min (g + 1) 1000
def isOff (s : Int) : Bool := decide (256 ≤ s)
def isPas (s g : Int) : Bool := !(isOff s) && (decide (128 ≤ s) || decide (128 ≤ g))
/-- A node: its state (0 idle, 1 in a frame, 2 at a frame's last bit, 3 flagging, 4 recovering, 5 counting, 6 pausing, 7 off), what is left of it, counters, the frame that waits, what is sent of it, the reader. -/
structure M where
  st : Int
  left : Int
  sent : Int
  got : Int
  waits : Bool
  f : Fm
  on : Bool
  bits : List Bool
  arb : Nat
  pos : Nat
  r : Rd
def M.new : M := ⟨6, 3, 0, 0, false, Fm.zero, false, [], 0, 0, Rd.zero⟩
def M.done (m : M) : M := { m with waits := false, f := Fm.zero, on := false, bits := [], arb := 0, pos := 0 }
def M.ask (m : M) (f : Fm) : M × Int :=
  if m.st = 7 then (m, 73) else if f.ok = false then (m, 12) else if m.waits then (m, 72) else ({ m with waits := true, f := f }, 0)
def M.cancel (m : M) : M × Bool := if m.waits = false ∨ m.on = true then (m, false) else (m.done, true)
/-- The bit that it lays on the wire. -/
def M.drive (m : M) : Bool :=
  if m.st = 0 then !m.waits
  else if m.st = 1 then (if m.on then m.bits.getD m.pos false else !(m.r.en == 1 && m.r.right))
  else if m.st = 3 then isPas m.sent m.got
  else true
def M.counted (m : M) (s l : Int) : M := if m.left - 1 ≤ 0 then { m with st := s, left := l } else { m with left := m.left - 1 }
def M.pauses (m : M) : M := { m with st := 6, left := 3 }
def M.begins (m : M) (sends : Bool) : M × List Ev :=
  (if sends then { m with st := 1, r := (Rd.zero.push false).1, on := true, bits := m.f.code, arb := m.f.arb, pos := 1 } else { m with st := 1, r := (Rd.zero.push false).1 }, [⟨6, Fm.zero, 0⟩])
def M.flags (m : M) (x : Ev) : M × List Ev := if isOff m.sent then ({ m with st := 7 }, [x, ⟨7, Fm.zero, 0⟩]) else ({ m with st := 3, left := 6 }, [x])
def M.fails (m : M) (f : Fm) (e : Int) : M × List Ev := M.flags { m.done with sent := if cOk m.sent m.got then sentC m.sent false else m.sent } ⟨4, f, e⟩
def M.hears (m : M) (c : Bool) : M × List Ev :=
  if (m.r.push c).2 ≠ 0 then M.flags { m with r := (m.r.push c).1, got := if cOk m.sent m.got then gotC m.got false else m.got } ⟨5, Fm.zero, (m.r.push c).2⟩
  else if (m.r.push c).1.en - 3 < 6 then ({ m with r := (m.r.push c).1 }, [])
  else ({ m with r := (m.r.push c).1, st := 2, got := if cOk m.sent m.got then gotC m.got true else m.got }, [⟨2, Fm.of (parseL (m.r.push c).1.b).1, 0⟩])
def M.sends (m : M) (c : Bool) : M × List Ev :=
  if m.bits.getD m.pos false = true ∧ c = false ∧ m.pos < m.arb then ((m.done.hears c).1, ⟨3, m.f, 0⟩ :: (m.done.hears c).2)
  else if m.pos + 9 = m.bits.length ∧ c = true then m.fails m.f 71
  else if ¬ m.pos + 9 = m.bits.length ∧ c ≠ m.bits.getD m.pos false then m.fails m.f 70
  else if m.pos + 1 < m.bits.length then ({ m with r := (m.r.push c).1, pos := m.pos + 1 }, [])
  else (M.pauses { m.done with r := (m.r.push c).1, sent := if cOk m.sent m.got then sentC m.sent true else m.sent }, [⟨1, m.f, 0⟩])
/-- It takes the bit that the wire had. -/
def M.sample (m : M) (c : Bool) : M × List Ev :=
  if m.st = 0 then (if c then (m, []) else m.begins m.waits)
  else if m.st = 1 then (if m.on then m.sends c else m.hears c)
  else if m.st = 2 then (m.pauses, [])
  else if m.st = 3 then (m.counted 4 0, [])
  else if m.st = 4 then (if c then { m with st := 5, left := 7 } else m, [])
  else if m.st = 5 then (if c then m.counted 6 3 else { m with left := 7 }, [])
  else if m.st = 6 then (if c then (m.counted 0 0, []) else m.begins false)
  else (m, [])
end Go.Proofs.YtpkpnaedacefaaaGreat.Mac
