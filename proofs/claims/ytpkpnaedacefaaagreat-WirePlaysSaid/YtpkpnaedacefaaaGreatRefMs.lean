/- The document's node on the wire (package ostinatoref7), in plain Lean; it and the node go together. -/
import Derived.Test.YtpkpnaedacefaaaGreatRefMa
namespace Go.Proofs.YtpkpnaedacefaaaGreat.MacR
set_option linter.unusedVariables false
set_option linter.unusedSimpArgs false
open Go Go.Proofs.YtpkpnaedacefaaaGreat.Lib Go.Proofs.YtpkpnaedacefaaaGreat.Bits Go.Proofs.YtpkpnaedacefaaaGreat.BitsW Go.Proofs.YtpkpnaedacefaaaGreat.StuffW Go.Proofs.YtpkpnaedacefaaaGreat.Frame Go.Proofs.YtpkpnaedacefaaaGreat.FrameW Go.Proofs.YtpkpnaedacefaaaGreat.Code Go.Proofs.YtpkpnaedacefaaaGreat.CodeW Go.Proofs.YtpkpnaedacefaaaGreat.CodeL Go.Proofs.YtpkpnaedacefaaaGreat.Mac Go.Proofs.YtpkpnaedacefaaaGreat.MacW Go.Proofs.YtpkpnaedacefaaaGreat.RefW
/-- The document's node: its state (0 idle, 1 in a frame, 2 flagging, 3 recovering, 4 pausing, 5 off). -/
structure Q7 where
  st : Int
  left : Int
  first : Bool
  sender : Bool
  has : Bool
  f : Fm
  out : List Bool
  at_ : Nat
  arb : Nat
  r : R3
  taken : Bool
  sent : Int
  got : Int
def Q7.new : Q7 := ⟨4, 3, false, false, false, Fm.zero, [], 0, 0, R3.new, false, 0, 0⟩
def Q7.busy (q : Q7) : Bool := q.has || q.sender
def Q7.ask (q : Q7) (f : Fm) : Q7 × Int :=
  if q.st = 5 then (q, 73) else if f.ok = false then (q, 12) else if q.busy = true then (q, 72) else ({ q with has := true, f := f }, 0)
def Q7.cancel (q : Q7) : Q7 × Bool := ({ q with has := false }, q.has)
def Q7.drive (q : Q7) : Bool :=
  if q.st = 0 then !q.has
  else if q.st = 1 then (if q.sender then q.out.getD q.at_ false else !(q.r.tail == 1 && q.r.right))
  else if q.st = 2 then isPas q.sent q.got
  else true
def Q7.pause (q : Q7) : Q7 := { q with st := 4, left := 3 }
def Q7.begin (q : Q7) (b : Bool) : Q7 × List Ev :=
  (if b then { q with st := 1, taken := false, r := (R3.new.next false).1, sender := true, has := false, out := q.f.code, at_ := 1, arb := q.f.arb } else { q with st := 1, taken := false, r := (R3.new.next false).1, sender := false }, [⟨6, Fm.zero, 0⟩])
def Q7.bad (q : Q7) (x : Ev) : Q7 × List Ev := if isOff q.sent then ({ q with sender := false, st := 5, left := 6, has := false }, [x, ⟨7, Fm.zero, 0⟩]) else ({ q with sender := false, st := 2, left := 6 }, [x])
def sentK (s g : Int) (ok : Bool) : Int := if cOk s g then sentC s ok else s
def gotK (s g : Int) (ok : Bool) : Int := if cOk s g then gotC g ok else g
def Q7.hearing (q : Q7) (c : Bool) : Q7 × List Ev :=
  if q.taken then (q.pause, [])
  else if (q.r.next c).2 ≠ 0 then Q7.bad { q with r := (q.r.next c).1, got := gotK q.sent q.got false } ⟨5, Fm.zero, ((q.r.next c).2 : Int)⟩
  else if (q.r.next c).1.tail = 9 then ({ q with r := (q.r.next c).1, taken := true, got := gotK q.sent q.got true }, [⟨2, Fm.of (q.r.next c).1.F, 0⟩])
  else ({ q with r := (q.r.next c).1 }, [])
def Q7.sending (q : Q7) (c : Bool) : Q7 × List Ev :=
  if q.out.getD q.at_ false = true ∧ c = false ∧ q.at_ + 1 ≤ q.arb then ((Q7.hearing { q with at_ := q.at_ + 1, sender := false } c).1, ⟨3, q.f, 0⟩ :: (Q7.hearing { q with at_ := q.at_ + 1, sender := false } c).2)
  else if q.at_ + 9 = q.out.length ∧ c = true then Q7.bad { q with at_ := q.at_ + 1, sent := sentK q.sent q.got false } ⟨4, q.f, 71⟩
  else if ¬ q.at_ + 9 = q.out.length ∧ c ≠ q.out.getD q.at_ false then Q7.bad { q with at_ := q.at_ + 1, sent := sentK q.sent q.got false } ⟨4, q.f, 70⟩
  else if q.at_ + 1 = q.out.length then (Q7.pause { q with at_ := q.at_ + 1, r := (q.r.next c).1, sent := sentK q.sent q.got true, sender := false }, [⟨1, q.f, 0⟩])
  else ({ q with at_ := q.at_ + 1, r := (q.r.next c).1 }, [])
def Q7.recover (q : Q7) (c : Bool) : Q7 :=
  if q.first then { q with first := !c } else if c = false then { q with left := 7 } else if q.left - 1 = 0 then Q7.pause { q with left := q.left - 1 } else { q with left := q.left - 1 }
def Q7.sample (q : Q7) (c : Bool) : Q7 × List Ev :=
  if q.st = 0 then (if c then (q, []) else q.begin q.has)
  else if q.st = 1 then (if q.sender then q.sending c else q.hearing c)
  else if q.st = 2 then (if q.left - 1 = 0 then ({ q with st := 3, left := 7, first := true }, []) else ({ q with left := q.left - 1 }, []))
  else if q.st = 3 then (q.recover c, [])
  else if q.st = 4 then (if c then (if q.left - 1 = 0 then ({ q with st := 0, left := q.left - 1 }, []) else ({ q with left := q.left - 1 }, [])) else q.begin false)
  else (q, [])
/-- They go together: what both know. -/
structure Base (m : M) (q : Q7) : Prop where
  sent : q.sent = m.sent
  got : q.got = m.got
  busy : q.busy = m.waits
  f : m.waits = true → q.f = m.f
inductive Sim (m : M) (q : Q7) : Prop where
  | idle (b : Base m q) (h : m.st = 0) (h' : q.st = 0) (s : q.sender = false) (l : m.sent < 256)
  | sends (b : Base m q) (h : m.st = 1) (h' : q.st = 1) (o : m.on = true) (s : q.sender = true) (k : q.has = false) (t : q.taken = false) (out : q.out = m.bits) (at_ : q.at_ = m.pos) (arb : q.arb = m.arb) (r : Link m.r q.r) (l : m.sent < 256)
  | hears (b : Base m q) (h : m.st = 1) (h' : q.st = 1) (o : m.on = false) (s : q.sender = false) (t : q.taken = false) (r : Link m.r q.r) (l : m.sent < 256) (e8 : m.r.en ≤ 8)
  | last (b : Base m q) (h : m.st = 2) (h' : q.st = 1) (s : q.sender = false) (t : q.taken = true) (d : q.r.tail = 9) (l : m.sent < 256)
  | flags (b : Base m q) (h : m.st = 3) (h' : q.st = 2) (s : q.sender = false) (e : q.left = m.left) (lo : 1 ≤ m.left) (l : m.sent < 256)
  | recov (b : Base m q) (h : m.st = 4) (h' : q.st = 3) (s : q.sender = false) (k : q.first = true) (e : q.left = 7) (l : m.sent < 256)
  | counts (b : Base m q) (h : m.st = 5) (h' : q.st = 3) (s : q.sender = false) (k : q.first = false) (e : q.left = m.left) (lo : 1 ≤ m.left) (l : m.sent < 256)
  | pauses (b : Base m q) (h : m.st = 6) (h' : q.st = 4) (s : q.sender = false) (e : q.left = m.left) (lo : 1 ≤ m.left) (l : m.sent < 256)
  | off (b : Base m q) (h : m.st = 7) (h' : q.st = 5) (s : q.sender = false) (w : m.waits = false)
theorem Sim.base {m : M} {q : Q7} (h : Sim m q) : Base m q := by cases h <;> assumption
theorem Sim.idle_iff {m : M} {q : Q7} (h : Sim m q) : (m.st == 0) = (q.st == 0) := by
  cases h <;> simp [*]
theorem sim_new : Sim M.new Q7.new := .pauses ⟨rfl, rfl, rfl, fun h => by cases (show false = true from h)⟩ rfl rfl rfl rfl (by decide) (by decide)
theorem sim_ask {m : M} {q : Q7} (h : Sim m q) (f : Fm) : (m.ask f).2 = (q.ask f).2 ∧ Sim (m.ask f).1 (q.ask f).1 := by
  have hb := h.base
  have e7 : m.st = 7 ↔ q.st = 5 := by cases h <;> simp [*]
  unfold M.ask Q7.ask
  by_cases h7 : m.st = 7
  · rw [if_pos h7, if_pos (e7.1 h7)]; exact ⟨rfl, h⟩
  rw [if_neg h7, if_neg (fun x => h7 (e7.2 x))]
  by_cases hk : f.ok = false
  · rw [if_pos hk, if_pos hk]; exact ⟨rfl, h⟩
  rw [if_neg hk, if_neg hk]
  by_cases hw : m.waits = true
  · rw [if_pos hw, if_pos (hb.busy.trans hw)]; exact ⟨rfl, h⟩
  rw [if_neg hw, if_neg (by rw [hb.busy]; exact hw)]
  refine ⟨rfl, ?_⟩
  have hbq := hb.busy
  have hw0 : m.waits = false := by simpa using hw
  rw [hw0] at hbq
  have nb : ∀ s, q.sender = s → Base { m with waits := true, f := f } { q with has := true, f := f } := fun s _ => ⟨hb.sent, hb.got, rfl, fun _ => rfl⟩
  cases h with
  | idle b h h' s l => exact .idle (nb _ rfl) h h' s l
  | sends b h h' o s k t out at_ arb r l =>
    unfold Q7.busy at hbq
    rw [s] at hbq
    simp at hbq
  | hears b h h' o s t r l e8 => exact .hears (nb _ rfl) h h' o s t r l e8
  | last b h h' s t d l => exact .last (nb _ rfl) h h' s t d l
  | flags b h h' s e lo l => exact .flags (nb _ rfl) h h' s e lo l
  | recov b h h' s k e l => exact .recov (nb _ rfl) h h' s k e l
  | counts b h h' s k e lo l => exact .counts (nb _ rfl) h h' s k e lo l
  | pauses b h h' s e lo l => exact .pauses (nb _ rfl) h h' s e lo l
  | off b h h' s w => exact absurd h h7
theorem sim_cancel {m : M} {q : Q7} (h : Sim m q) (hf : Fine m) : m.cancel.2 = q.cancel.2 ∧ Sim m.cancel.1 q.cancel.1 := by
  have hb := h.base
  have hbq := hb.busy
  unfold M.cancel Q7.cancel
  by_cases hw : m.waits = false ∨ m.on = true
  · rw [if_pos hw]
    have hh : q.has = false := by
      rcases hw with hw | ho
      · rw [hw] at hbq
        unfold Q7.busy at hbq
        simp at hbq
        exact hbq.1
      · cases h with
        | sends b h h' o s k t out at_ arb r l => exact k
        | hears b h h' o s t r l e8 => rw [o] at ho; cases ho
        | idle b h h' s l => have := (hf.on ho).st; omega
        | last b h h' s t d l => have := (hf.on ho).st; omega
        | flags b h h' s e lo l => have := (hf.on ho).st; omega
        | recov b h h' s k e l => have := (hf.on ho).st; omega
        | counts b h h' s k e lo l => have := (hf.on ho).st; omega
        | pauses b h h' s e lo l => have := (hf.on ho).st; omega
        | off b h h' s w => have := (hf.on ho).st; omega
    have e : ({ q with has := false } : Q7) = q := by cases q; simp only at hh; subst hh; rfl
    refine ⟨hh.symm, ?_⟩
    show Sim m { q with has := false }
    rw [e]
    exact h
  · rw [if_neg hw]
    have hw1 : m.waits = true := by simpa using fun x => hw (.inl x)
    have ho : m.on = false := by simpa using fun x => hw (.inr x)
    rw [hw1] at hbq
    have nb : q.sender = false → Base m.done { q with has := false } := fun s => ⟨hb.sent, hb.got, by unfold Q7.busy; rw [s]; rfl, fun h => by cases (show false = true from h)⟩
    have hs : q.sender = false := by
      cases h with
      | sends b h h' o s k t out at_ arb r l => rw [o] at ho; cases ho
      | _ => assumption
    have hh : q.has = true := by unfold Q7.busy at hbq; rw [hs] at hbq; simpa using hbq
    refine ⟨hh.symm, ?_⟩
    cases h with
    | idle b h h' s l => exact .idle (nb s) h h' s l
    | sends b h h' o s k t out at_ arb r l => rw [o] at ho; cases ho
    | hears b h h' o s t r l e8 => exact .hears (nb s) h h' rfl s t r l e8
    | last b h h' s t d l => exact .last (nb s) h h' s t d l
    | flags b h h' s e lo l => exact .flags (nb s) h h' s e lo l
    | recov b h h' s k e l => exact .recov (nb s) h h' s k e l
    | counts b h h' s k e lo l => exact .counts (nb s) h h' s k e lo l
    | pauses b h h' s e lo l => exact .pauses (nb s) h h' s e lo l
    | off b h h' s w => exact .off (nb s) h h' s rfl
theorem has_of {m : M} {q : Q7} (b : Base m q) (s : q.sender = false) : q.has = m.waits := by
  have := b.busy
  unfold Q7.busy at this
  rw [s, Bool.or_false] at this
  exact this
theorem sim_drive {m : M} {q : Q7} (h : Sim m q) : m.drive = q.drive := by
  have hb := h.base
  cases h with
  | idle b h h' s l => unfold M.drive Q7.drive; rw [if_pos h, if_pos h', has_of b s]
  | sends b h h' o s k t out at_ arb r l =>
    unfold M.drive Q7.drive
    rw [if_neg (by omega), if_pos h, if_pos o, if_neg (by omega), if_pos h', if_pos s, out, at_]
  | hears b h h' o s t r l e8 =>
    unfold M.drive Q7.drive
    rw [if_neg (by omega), if_pos h, if_neg (by simp [o]), if_neg (by omega), if_pos h', if_neg (by simp [s])]
    congr 1
    by_cases hc : m.r.inBits = true ∨ m.r.rn = 5
    · have e1 := r.tail
      rw [if_pos hc] at e1
      have e2 := (r.op hc).1
      rw [e1, e2]
      rfl
    · have e1 := r.tail
      rw [if_neg hc] at e1
      rw [e1, r.right (fun x => hc (.inl x))]
      congr 1
      rw [Bool.eq_iff_iff, beq_iff_eq, beq_iff_eq]
      omega
  | last b h h' s t d l =>
    unfold M.drive Q7.drive
    rw [if_neg (by omega), if_neg (by omega), if_neg (by omega), if_neg (by omega), if_pos h', if_neg (by simp [s]), d]
    rfl
  | flags b h h' s e lo l => unfold M.drive Q7.drive; rw [if_neg (by omega), if_neg (by omega), if_pos h, if_neg (by omega), if_neg (by omega), if_pos h', b.sent, b.got]
  | recov b h h' s k e l => unfold M.drive Q7.drive; rw [if_neg (by omega), if_neg (by omega), if_neg (by omega), if_neg (by omega), if_neg (by omega), if_neg (by omega)]
  | counts b h h' s k e lo l => unfold M.drive Q7.drive; rw [if_neg (by omega), if_neg (by omega), if_neg (by omega), if_neg (by omega), if_neg (by omega), if_neg (by omega)]
  | pauses b h h' s e lo l => unfold M.drive Q7.drive; rw [if_neg (by omega), if_neg (by omega), if_neg (by omega), if_neg (by omega), if_neg (by omega), if_neg (by omega)]
  | off b h h' s w => unfold M.drive Q7.drive; rw [if_neg (by omega), if_neg (by omega), if_neg (by omega), if_neg (by omega), if_neg (by omega), if_neg (by omega)]
theorem link_start : Link (Rd.zero.push false).1 (R3.new.next false).1 := ((link_next link_zero false).1 rfl).1
theorem sim_begin {m : M} {q : Q7} (b : Base m q) (s : q.sender = false) (ho : m.on = false) (l : m.sent < 256) (x : Bool) (hx : x = true → m.waits = true) : (m.begins x).2 = (q.begin x).2 ∧ Sim (m.begins x).1 (q.begin x).1 := by
  refine ⟨rfl, ?_⟩
  unfold M.begins Q7.begin
  cases x
  · rw [if_neg (by decide), if_neg (by decide)]
    exact .hears ⟨b.sent, b.got, by show (q.has || false) = m.waits; rw [Bool.or_false]; exact has_of b s, b.f⟩ rfl rfl ho rfl rfl link_start l (by show (Rd.zero.push false).1.en ≤ 8; rw [rd_first.2]; decide)
  · rw [if_pos rfl, if_pos rfl]
    have hw := hx rfl
    have hf := b.f hw
    exact .sends ⟨b.sent, b.got, by show (false || true) = m.waits; rw [hw]; rfl, b.f⟩ rfl rfl rfl rfl rfl rfl (by show q.f.code = m.f.code; rw [hf]) rfl (by show q.f.arb = m.f.arb; rw [hf]) link_start l
theorem sim_bad {m : M} {q : Q7} (b : Base m { q with sender := false }) (ho : isOff m.sent = true → m.waits = false) (x : Ev) : (m.flags x).2 = (q.bad x).2 ∧ Sim (m.flags x).1 (q.bad x).1 := by
  have e : isOff q.sent = isOff m.sent := by rw [show q.sent = m.sent from b.sent]
  unfold M.flags Q7.bad
  rw [e]
  have hh : q.has = m.waits := has_of (q := { q with sender := false }) b rfl
  by_cases h : isOff m.sent = true
  · rw [if_pos h, if_pos h]
    refine ⟨rfl, .off ⟨b.sent, b.got, ?_, fun hw => ?_⟩ rfl rfl rfl (ho h)⟩
    · show (false || false) = m.waits
      rw [ho h]; rfl
    · exact b.f hw
  · rw [if_neg h, if_neg h]
    have hl : m.sent < 256 := by unfold isOff at h; simp at h; omega
    exact ⟨rfl, .flags ⟨b.sent, b.got, b.busy, b.f⟩ rfl rfl rfl rfl (by show (1 : Int) ≤ 6; decide) hl⟩
theorem no_off {m : M} (l : m.sent < 256) : isOff m.sent = false := by unfold isOff; simp; omega
theorem sim_hear {m : M} {q : Q7} (b : Base m { q with sender := false }) (h : m.st = 1) (h' : q.st = 1) (ho : m.on = false) (s : q.sender = false) (t : q.taken = false) (r : Link m.r q.r) (l : m.sent < 256) (he : m.r.en ≤ 8) (c : Bool) :
    (m.hears c).2 = (q.hearing c).2 ∧ Sim (m.hears c).1 (q.hearing c).1 := by
  obtain ⟨k0, k1⟩ := link_next r c
  have es : ({ q with sender := false } : Q7) = q := by cases q; simp only at s; subst s; rfl
  rw [es] at b
  have hsent : q.sent = m.sent := b.sent
  have hgot : q.got = m.got := b.got
  have ht0 : ¬ q.taken = true := by rw [t]; decide
  by_cases hp : (m.r.push c).2 = 0
  · obtain ⟨hl, hn⟩ := k0 hp
    have hen : (m.r.push c).1.en ≤ m.r.en + 1 := (r.inv.push c hp).2
    rw [if_neg (show ¬ (m.r.push c).1.en = 10 by omega)] at hn
    have e1 : m.hears c = (if (m.r.push c).1.en - 3 < 6 then ({ m with r := (m.r.push c).1 }, [])
      else ({ m with r := (m.r.push c).1, st := 2, got := if cOk m.sent m.got then gotC m.got true else m.got }, [⟨2, Fm.of (parseL (m.r.push c).1.b).1, 0⟩])) := by
      unfold M.hears; rw [if_neg (show ¬ (m.r.push c).2 ≠ 0 by rw [hp]; simp)]
    have e2 : q.hearing c = (if (q.r.next c).1.tail = 9 then ({ q with r := (q.r.next c).1, taken := true, got := gotK q.sent q.got true }, [⟨2, Fm.of (q.r.next c).1.F, 0⟩])
      else ({ q with r := (q.r.next c).1 }, [])) := by
      unfold Q7.hearing; rw [if_neg ht0, if_neg (show ¬ (q.r.next c).2 ≠ 0 by rw [hn]; simp)]
    rw [e1, e2]
    by_cases h9 : (m.r.push c).1.en - 3 < 6
    · have ht : ¬ (q.r.next c).1.tail = 9 := by
        rw [hl.tail]
        split
        · decide
        · omega
      rw [if_pos h9, if_neg ht]
      exact ⟨rfl, .hears ⟨b.sent, b.got, b.busy, b.f⟩ h h' ho s t hl l (by show (m.r.push c).1.en ≤ 8; omega)⟩
    · have h9' : (m.r.push c).1.en = 9 := by omega
      have ht : (q.r.next c).1.tail = 9 := by
        rw [hl.tail]
        have hc : ¬ ((m.r.push c).1.inBits = true ∨ (m.r.push c).1.rn = 5) := fun x => by
          have := (hl.op x).1; omega
        rw [if_neg hc, h9']
        rfl
      rw [if_neg h9, if_pos ht, link_end hl (by omega)]
      refine ⟨rfl, .last ⟨b.sent, ?_, b.busy, b.f⟩ rfl h' s rfl ht l⟩
      show gotK q.sent q.got true = (if cOk m.sent m.got then gotC m.got true else m.got)
      unfold gotK
      rw [hsent, hgot]
  · have hn := k1 hp
    have e1 : m.hears c = M.flags { m with r := (m.r.push c).1, got := if cOk m.sent m.got then gotC m.got false else m.got } ⟨5, Fm.zero, ((m.r.push c).2 : Int)⟩ := by
      unfold M.hears; rw [if_pos (show (m.r.push c).2 ≠ 0 from hp)]
    have e2 : q.hearing c = Q7.bad { q with r := (q.r.next c).1, got := gotK q.sent q.got false } ⟨5, Fm.zero, ((q.r.next c).2 : Int)⟩ := by
      unfold Q7.hearing; rw [if_neg ht0, if_pos (show (q.r.next c).2 ≠ 0 by rw [hn]; exact hp)]
    rw [e1, e2, hn]
    refine sim_bad (m := { m with r := (m.r.push c).1, got := if cOk m.sent m.got then gotC m.got false else m.got }) (q := { q with r := (q.r.next c).1, got := gotK q.sent q.got false }) ⟨b.sent, ?_, ?_, b.f⟩ (fun hx => ?_) _
    · show gotK q.sent q.got false = (if cOk m.sent m.got then gotC m.got false else m.got)
      unfold gotK
      rw [hsent, hgot]
    · show (q.has || false) = m.waits
      rw [Bool.or_false]; exact has_of b s
    · have := no_off l
      rw [show isOff m.sent = true from hx] at this
      cases this
theorem link_on {m : M} (hg : m.f.Good) (o : OnOk m) : ((m.r.push (m.f.ack[m.pos]'o.pos)).2 = 0) := by
  rw [o.r]
  exact rd_push (f_fr hg) (f_zero m.f) m.pos o.pos
theorem sim_send {m : M} {q : Q7} (hf : Fine m) (b : Base m q) (h : m.st = 1) (h' : q.st = 1) (o : m.on = true) (s : q.sender = true) (k : q.has = false) (t : q.taken = false) (out : q.out = m.bits) (at_ : q.at_ = m.pos) (arb : q.arb = m.arb) (r : Link m.r q.r) (l : m.sent < 256) (c : Bool) :
    (m.sends c).2 = (q.sending c).2 ∧ Sim (m.sends c).1 (q.sending c).1 := by
  have oo := hf.on o
  have hg := hf.good oo.w
  have hqf : q.f = m.f := b.f oo.w
  have hsent : q.sent = m.sent := b.sent
  have hgot : q.got = m.got := b.got
  have hbusy := b.busy
  have hbf := b.f
  have e0 : m.sends c = (if m.bits.getD m.pos false = true ∧ c = false ∧ m.pos < m.arb then ((m.done.hears c).1, ⟨3, m.f, 0⟩ :: (m.done.hears c).2)
    else if m.pos + 9 = m.bits.length ∧ c = true then m.fails m.f 71
    else if ¬ m.pos + 9 = m.bits.length ∧ c ≠ m.bits.getD m.pos false then m.fails m.f 70
    else if m.pos + 1 < m.bits.length then ({ m with r := (m.r.push c).1, pos := m.pos + 1 }, [])
    else (M.pauses { m.done with r := (m.r.push c).1, sent := if cOk m.sent m.got then sentC m.sent true else m.sent }, [⟨1, m.f, 0⟩])) := rfl
  have hpl : m.pos < m.bits.length := by rw [oo.bits, code_len hg]; exact oo.pos
  have hfail : ∀ e, (m.fails m.f e).2 = (Q7.bad { q with at_ := q.at_ + 1, sent := sentK q.sent q.got false } ⟨4, m.f, e⟩).2 ∧ Sim (m.fails m.f e).1 (Q7.bad { q with at_ := q.at_ + 1, sent := sentK q.sent q.got false } ⟨4, m.f, e⟩).1 := by
    intro e
    unfold M.fails
    refine sim_bad (m := { m.done with sent := if cOk m.sent m.got then sentC m.sent false else m.sent }) (q := { q with at_ := q.at_ + 1, sent := sentK q.sent q.got false }) ⟨?_, b.got, ?_, fun h => by cases (show false = true from h)⟩ (fun _ => rfl) _
    · show sentK q.sent q.got false = (if cOk m.sent m.got then sentC m.sent false else m.sent)
      unfold sentK; rw [hsent, hgot]
    · show (q.has || false) = false
      rw [k]; rfl
  clear b
  obtain ⟨qst, qleft, qfirst, qsender, qhas, qf, qout, qat, qarb, qr, qtaken, qsent, qgot⟩ := q
  simp only at h' s k t out at_ arb r hqf hsent hgot hfail hbusy hbf
  subst h' s k t out at_ arb hqf hsent hgot
  unfold Q7.sending
  rw [e0]
  simp only
  by_cases c1 : m.bits.getD m.pos false = true ∧ c = false ∧ m.pos < m.arb
  · rw [if_pos c1, if_pos (show m.bits.getD m.pos false = true ∧ c = false ∧ m.pos + 1 ≤ m.arb from ⟨c1.1, c1.2.1, by omega⟩)]
    have hen : m.r.en ≤ 8 := by
      have hl := code_len hg
      have ha := f_arb hg
      have hal := ack_len m.f
      have e := rd_en (f_fr hg) ackT m.pos (by rw [ackT_len]; have := oo.pos; omega)
      have e2 : m.r.en = m.pos - (stuff m.f.S).length := by rw [oo.r]; exact e
      have := c1.2.2
      rw [oo.arb] at this
      omega
    have hx := sim_hear (m := m.done) (q := ⟨1, qleft, qfirst, false, false, m.f, m.bits, m.pos + 1, m.arb, qr, false, m.sent, m.got⟩) ⟨rfl, rfl, rfl, fun h => by cases (show false = true from h)⟩ h rfl rfl rfl rfl r l hen c
    exact ⟨by rw [hx.1], hx.2⟩
  · rw [if_neg c1, if_neg (show ¬ (m.bits.getD m.pos false = true ∧ c = false ∧ m.pos + 1 ≤ m.arb) from fun x => c1 ⟨x.1, x.2.1, by omega⟩)]
    by_cases c2 : m.pos + 9 = m.bits.length ∧ c = true
    · rw [if_pos c2, if_pos c2]
      exact hfail 71
    · rw [if_neg c2, if_neg c2]
      by_cases c3 : ¬ m.pos + 9 = m.bits.length ∧ c ≠ m.bits.getD m.pos false
      · rw [if_pos c3, if_pos c3]
        exact hfail 70
      · rw [if_neg c3, if_neg c3]
        have hc : c = m.f.ack[m.pos]'oo.pos := by
          rcases on_cases hg oo c with ⟨⟨x1, x2, x3⟩, _⟩ | ⟨x1, x2, _⟩ | ⟨x1, x2, x3, x4⟩ | ⟨x, _⟩ | ⟨x, _⟩
          · exfalso
            refine c1 ⟨?_, x1, by rw [oo.arb]; exact x3⟩
            have hne : m.pos + 9 ≠ m.f.ack.length := by
              intro e9
              have hl2 := ack_len m.f
              have := f_arb hg
              omega
            have hal := ack_len m.f
            rw [oo.bits, f_code hg, code_getD m.pos oo.pos, if_neg (by omega)]
            exact x2
          · exact absurd ⟨by rw [oo.bits, code_len hg]; exact x1, x2⟩ c2
          · exfalso
            have hal := ack_len m.f
            refine c3 ⟨by rw [oo.bits, code_len hg]; exact x1, ?_⟩
            rw [oo.bits, f_code hg, code_getD m.pos oo.pos, if_neg (by omega)]
            exact x2
          · exact x
          · exact x
        have hp0 := link_on hg oo
        rw [← hc] at hp0
        have hl := ((link_next r c).1 hp0).1
        by_cases c4 : m.pos + 1 < m.bits.length
        · rw [if_pos c4, if_neg (show ¬ m.pos + 1 = m.bits.length by omega)]
          exact ⟨rfl, .sends ⟨rfl, rfl, hbusy, hbf⟩ h rfl o rfl rfl rfl rfl rfl rfl hl l⟩
        · rw [if_neg c4, if_pos (show m.pos + 1 = m.bits.length by omega)]
          refine ⟨rfl, .pauses ⟨rfl, rfl, rfl, fun h => by cases (show false = true from h)⟩ rfl rfl rfl rfl (by show (1 : Int) ≤ 3; decide) ?_⟩
          show (if cOk m.sent m.got then sentC m.sent true else m.sent) < 256
          unfold sentC
          split
          · rw [if_pos rfl]; omega
          · exact l
theorem q_idle {q : Q7} (h : q.st = 0) (c : Bool) : q.sample c = if c then (q, []) else q.begin q.has := by unfold Q7.sample; rw [if_pos h]
theorem q_in {q : Q7} (h : q.st = 1) (c : Bool) : q.sample c = if q.sender then q.sending c else q.hearing c := by unfold Q7.sample; rw [if_neg (show ¬ q.st = 0 by omega), if_pos h]
theorem q_flag {q : Q7} (h : q.st = 2) (c : Bool) : q.sample c = if q.left - 1 = 0 then ({ q with st := 3, left := 7, first := true }, []) else ({ q with left := q.left - 1 }, []) := by
  unfold Q7.sample; rw [if_neg (show ¬ q.st = 0 by omega), if_neg (show ¬ q.st = 1 by omega), if_pos h]
theorem q_rec {q : Q7} (h : q.st = 3) (c : Bool) : q.sample c = (q.recover c, []) := by
  unfold Q7.sample; rw [if_neg (show ¬ q.st = 0 by omega), if_neg (show ¬ q.st = 1 by omega), if_neg (show ¬ q.st = 2 by omega), if_pos h]
theorem q_pause {q : Q7} (h : q.st = 4) (c : Bool) : q.sample c = if c then (if q.left - 1 = 0 then ({ q with st := 0, left := q.left - 1 }, []) else ({ q with left := q.left - 1 }, [])) else q.begin false := by
  unfold Q7.sample; rw [if_neg (show ¬ q.st = 0 by omega), if_neg (show ¬ q.st = 1 by omega), if_neg (show ¬ q.st = 2 by omega), if_neg (show ¬ q.st = 3 by omega), if_pos h]
theorem q_off {q : Q7} (h : q.st = 5) (c : Bool) : q.sample c = (q, []) := by
  unfold Q7.sample; rw [if_neg (show ¬ q.st = 0 by omega), if_neg (show ¬ q.st = 1 by omega), if_neg (show ¬ q.st = 2 by omega), if_neg (show ¬ q.st = 3 by omega), if_neg (show ¬ q.st = 4 by omega)]
theorem m_idle {m : M} (h : m.st = 0) (c : Bool) : m.sample c = if c then (m, []) else m.begins m.waits := by unfold M.sample; rw [if_pos h]
theorem m_in {m : M} (h : m.st = 1) (c : Bool) : m.sample c = if m.on then m.sends c else m.hears c := by unfold M.sample; rw [if_neg (show ¬ m.st = 0 by omega), if_pos h]
theorem m_last {m : M} (h : m.st = 2) (c : Bool) : m.sample c = (m.pauses, []) := by unfold M.sample; rw [if_neg (show ¬ m.st = 0 by omega), if_neg (show ¬ m.st = 1 by omega), if_pos h]
theorem m_count {m : M} (h : m.st = 5) : m.sample false = ({ m with left := 7 }, []) := by
  unfold M.sample; rw [if_neg (show ¬ m.st = 0 by omega), if_neg (show ¬ m.st = 1 by omega), if_neg (show ¬ m.st = 2 by omega), if_neg (show ¬ m.st = 3 by omega), if_neg (show ¬ m.st = 4 by omega), if_pos h, if_neg (by decide)]
theorem m_pause {m : M} (h : m.st = 6) : m.sample false = m.begins false := by
  unfold M.sample; rw [if_neg (show ¬ m.st = 0 by omega), if_neg (show ¬ m.st = 1 by omega), if_neg (show ¬ m.st = 2 by omega), if_neg (show ¬ m.st = 3 by omega), if_neg (show ¬ m.st = 4 by omega), if_neg (show ¬ m.st = 5 by omega), if_pos h, if_neg (by decide)]
theorem m_off {m : M} (h : m.st = 7) (c : Bool) : m.sample c = (m, []) := by
  unfold M.sample; rw [if_neg (show ¬ m.st = 0 by omega), if_neg (show ¬ m.st = 1 by omega), if_neg (show ¬ m.st = 2 by omega), if_neg (show ¬ m.st = 3 by omega), if_neg (show ¬ m.st = 4 by omega), if_neg (show ¬ m.st = 5 by omega), if_neg (show ¬ m.st = 6 by omega)]
theorem sim_sample {m : M} {q : Q7} (hf : Fine m) (h : Sim m q) (c : Bool) : (m.sample c).2 = (q.sample c).2 ∧ Sim (m.sample c).1 (q.sample c).1 := by
  have hsim := h
  cases h with
  | idle b h h' s l =>
    rw [m_idle h, q_idle h']
    cases c
    · rw [if_neg (by decide), if_neg (by decide), has_of b s]
      exact sim_begin b s (hf.off (by omega)) l _ (fun x => x)
    · rw [if_pos rfl, if_pos rfl]
      exact ⟨rfl, hsim⟩
  | sends b h h' o s k t out at_ arb r l =>
    rw [m_in h, q_in h', if_pos o, if_pos s]
    exact sim_send hf b h h' o s k t out at_ arb r l c
  | hears b h h' o s t r l e8 =>
    rw [m_in h, q_in h', if_neg (show ¬ m.on = true by simp [o]), if_neg (show ¬ q.sender = true by simp [s])]
    exact sim_hear ⟨b.sent, b.got, by show (q.has || false) = m.waits; rw [Bool.or_false]; exact has_of b s, b.f⟩ h h' o s t r l e8 c
  | last b h h' s t d l =>
    rw [m_last h, q_in h', if_neg (show ¬ q.sender = true by simp [s])]
    unfold Q7.hearing
    rw [if_pos t]
    exact ⟨rfl, .pauses ⟨b.sent, b.got, b.busy, b.f⟩ rfl rfl s rfl (by show (1 : Int) ≤ 3; decide) l⟩
  | flags b h h' s e lo l =>
    rw [sample_flag h, q_flag h', e]
    by_cases h1 : m.left = 1
    · rw [counted_end h1, if_pos (show m.left - 1 = 0 by omega)]
      exact ⟨rfl, .recov ⟨b.sent, b.got, b.busy, b.f⟩ rfl rfl s rfl rfl l⟩
    · rw [counted_go (by omega), if_neg (show ¬ m.left - 1 = 0 by omega)]
      exact ⟨rfl, .flags ⟨b.sent, b.got, b.busy, b.f⟩ h h' s rfl (by show 1 ≤ m.left - 1; omega) l⟩
  | recov b h h' s k e l =>
    rw [q_rec h']
    unfold Q7.recover
    rw [if_pos k]
    cases c
    · rw [sample_low h]
      exact ⟨rfl, .recov ⟨b.sent, b.got, b.busy, b.f⟩ h h' s rfl e l⟩
    · rw [sample_rec h]
      exact ⟨rfl, .counts ⟨b.sent, b.got, b.busy, b.f⟩ rfl h' s rfl e (by show (1 : Int) ≤ 7; decide) l⟩
  | counts b h h' s k e lo l =>
    rw [q_rec h']
    unfold Q7.recover
    rw [if_neg (show ¬ q.first = true by simp [k])]
    cases c
    · rw [m_count h, if_pos rfl]
      exact ⟨rfl, .counts ⟨b.sent, b.got, b.busy, b.f⟩ h h' s k rfl (by show (1 : Int) ≤ 7; decide) l⟩
    · rw [sample_count h, if_neg (show ¬ true = false by decide), e]
      by_cases h1 : m.left = 1
      · rw [counted_end h1, if_pos (show m.left - 1 = 0 by omega)]
        exact ⟨rfl, .pauses ⟨b.sent, b.got, b.busy, b.f⟩ rfl rfl s rfl (by show (1 : Int) ≤ 3; decide) l⟩
      · rw [counted_go (by omega), if_neg (show ¬ m.left - 1 = 0 by omega)]
        exact ⟨rfl, .counts ⟨b.sent, b.got, b.busy, b.f⟩ h h' s k rfl (by show 1 ≤ m.left - 1; omega) l⟩
  | pauses b h h' s e lo l =>
    rw [q_pause h']
    cases c
    · rw [m_pause h, if_neg (by decide)]
      exact sim_begin b s (hf.off (by omega)) l _ (fun x => by cases x)
    · rw [sample_pause h, if_pos rfl, e]
      by_cases h1 : m.left = 1
      · rw [counted_end h1, if_pos (show m.left - 1 = 0 by omega)]
        exact ⟨rfl, .idle ⟨b.sent, b.got, b.busy, b.f⟩ rfl rfl s l⟩
      · rw [counted_go (by omega), if_neg (show ¬ m.left - 1 = 0 by omega)]
        exact ⟨rfl, .pauses ⟨b.sent, b.got, b.busy, b.f⟩ h h' s rfl (by show 1 ≤ m.left - 1; omega) l⟩
  | off b h h' s w =>
    rw [m_off h, q_off h']
    exact ⟨rfl, hsim⟩
end Go.Proofs.YtpkpnaedacefaaaGreat.MacR
