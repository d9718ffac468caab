/- A node alone on the wire: it fails, again and again. -/
import Derived.Test.YtpkpnaedacefaaaMacHear
namespace Go.Proofs.Ytpkpnaedacefaaa.MacW
set_option linter.unusedVariables false
set_option linter.unusedSimpArgs false
open Go Go.Proofs.Ytpkpnaedacefaaa.Lib Go.Proofs.Ytpkpnaedacefaaa.Bits Go.Proofs.Ytpkpnaedacefaaa.BitsW Go.Proofs.Ytpkpnaedacefaaa.Frame Go.Proofs.Ytpkpnaedacefaaa.FrameW Go.Proofs.Ytpkpnaedacefaaa.Code Go.Proofs.Ytpkpnaedacefaaa.CodeW Go.Proofs.Ytpkpnaedacefaaa.CodeL Go.Proofs.Ytpkpnaedacefaaa.Mac
/-- An idle node that failed k times. -/
structure Quiet (q : M) (k : Nat) : Prop where
  st : q.st = 0
  sent : q.sent = 8 * (k : Int)
  got : q.got = 0
  waits : q.waits = false
  on : q.on = false
theorem quiet_ask {q : M} {k : Nat} (h : Quiet q k) {f : Fm} (hf : f.Good) : q.ask f = ({ q with waits := true, f := f }, 0) := by
  unfold M.ask
  rw [if_neg (by rw [h.st]; decide), if_neg (by rw [hf.ok]; decide), if_neg (by rw [h.waits]; decide)]
theorem quiet_begin {q : M} {k : Nat} (h : Quiet q k) (f : Fm) : ({ q with waits := true, f := f } : M).sample false = (sendM q f 1, [⟨6, Fm.zero, 0⟩]) := by
  rw [send_begin (f := f) (by exact h.st) rfl rfl]
  rfl
theorem quiet_low {q : M} {k : Nat} (h : Quiet q k) (f : Fm) : ({ q with waits := true, f := f } : M).drive = false := by
  unfold M.drive
  rw [if_pos (by exact h.st)]
  rfl
/-- The node behind its next failure. -/
def nxM (q : M) (f : Fm) : M := { (sendM q f (f.ack.length - 9)).done with sent := q.sent + 8 }
theorem own_send {f : Fm} (h : f.Good) (q : M) {j : Nat} (h0 : 0 < j) (hj : j + 9 < f.ack.length) : (sendM q f j).sample (sendM q f j).drive = (sendM q f (j + 1), []) := by
  have hd : (sendM q f j).drive = f.ack[j]'(by omega) := by
    rw [drive_send h (m := sendM q f j) (j := j) rfl rfl rfl rfl (by omega), if_neg (by omega)]
  rw [hd]
  exact send_next h (by omega)
theorem send_onOk {m : M} {f : Fm} {j : Nat} (h0 : 0 < j) (hj : j < f.ack.length) : OnOk (sendM m f j) := ⟨rfl, rfl, rfl, rfl, h0, hj, rfl⟩
theorem own_fails {f : Fm} (h : f.Good) (q : M) : (sendM q f (f.ack.length - 9)).sample (sendM q f (f.ack.length - 9)).drive = (sendM q f (f.ack.length - 9)).fails f 71 := by
  have hl := ack_long h
  have hd : (sendM q f (f.ack.length - 9)).drive = true := by
    rw [drive_send h (m := sendM q f (f.ack.length - 9)) (j := f.ack.length - 9) rfl rfl rfl rfl (by omega), if_pos (by omega)]
  rw [hd]
  have hs : (sendM q f (f.ack.length - 9)).sample true = (sendM q f (f.ack.length - 9)).sends true := by
    unfold M.sample
    rw [if_neg (by show ¬ (1 : Int) = 0; decide), if_pos (by show (1 : Int) = 1; rfl), if_pos (by show true = true; rfl)]
  rw [hs]
  have hb : bitAt f.ack (f.ack.length - 9) = false := by
    have hl2 := ack_len f
    have e : f.ack.length - 9 = (stuff f.S).length + 1 := by omega
    unfold bitAt Fm.ack
    have e2 : (stuff f.S ++ ackT).length - 9 = (stuff f.S).length + 1 := e
    rw [List.getD_eq_getElem?_getD, e2, List.getElem?_append_right (by omega), Nat.add_sub_cancel_left]
    rfl
  have hp : (sendM q f (f.ack.length - 9)).pos = f.ack.length - 9 := rfl
  have hf : (sendM q f (f.ack.length - 9)).f = f := rfl
  rcases on_cases (m := sendM q f (f.ack.length - 9)) h (send_onOk (by omega) (by omega)) true with ⟨⟨r, _⟩, _⟩ | ⟨_, _, r⟩ | ⟨r, _⟩ | ⟨r, _⟩ | ⟨r, _⟩
  · cases r
  · rw [r]; rfl
  · rw [hp, hf] at r; omega
  · rw [bitAt_eq _ _ (by omega)] at hb
    exact absurd (r.trans hb) (by decide)
  · rw [bitAt_eq _ _ (by omega)] at hb
    exact absurd (r.trans hb) (by decide)
theorem quiet_cok {q : M} {k : Nat} (h : Quiet q k) (hk : k ≤ 40) : cOk q.sent q.got = true := by
  unfold cOk
  rw [h.sent, h.got]
  simp only [Bool.and_eq_true, decide_eq_true_eq]
  omega
theorem own_fail {f : Fm} (h : f.Good) {q : M} {k : Nat} (hq : Quiet q k) (hk : k < 31) : (sendM q f (f.ack.length - 9)).sample (sendM q f (f.ack.length - 9)).drive = (flagM (nxM q f) 0, [⟨4, f, 71⟩]) := by
  rw [own_fails h q]
  unfold M.fails M.flags
  have hc : cOk (sendM q f (f.ack.length - 9)).sent (sendM q f (f.ack.length - 9)).got = true := (show cOk q.sent q.got = true from quiet_cok hq (by omega))
  have hs : sentC (sendM q f (f.ack.length - 9)).sent false = q.sent + 8 := by
    show min (q.sent + 8) 1000 = q.sent + 8
    rw [hq.sent]; omega
  rw [if_pos hc, hs]
  rw [if_neg (by show ¬ isOff (q.sent + 8) = true; unfold isOff; rw [hq.sent]; simp; omega)]
  rfl
theorem own_off {f : Fm} (h : f.Good) {q : M} (hq : Quiet q 31) : (sendM q f (f.ack.length - 9)).sample (sendM q f (f.ack.length - 9)).drive = ({ nxM q f with st := 7 }, [⟨4, f, 71⟩, ⟨7, Fm.zero, 0⟩]) := by
  rw [own_fails h q]
  unfold M.fails M.flags
  have hc : cOk (sendM q f (f.ack.length - 9)).sent (sendM q f (f.ack.length - 9)).got = true := (show cOk q.sent q.got = true from quiet_cok hq (by omega))
  have hs : sentC (sendM q f (f.ack.length - 9)).sent false = q.sent + 8 := by
    show min (q.sent + 8) 1000 = q.sent + 8
    rw [hq.sent]; omega
  rw [if_pos hc, hs]
  rw [if_pos (by show isOff (q.sent + 8) = true; unfold isOff; rw [hq.sent]; rfl)]
  rfl
theorem quiet_next {q : M} {k : Nat} (h : Quiet q k) (f : Fm) : Quiet (recM (nxM q f) 11) (k + 1) := by
  rw [rec_eq3 (by decide)]
  refine ⟨rfl, ?_, h.got, rfl, rfl⟩
  show q.sent + 8 = 8 * ((k + 1 : Nat) : Int)
  rw [h.sent]; omega
theorem rec_st (m : M) {k : Nat} (h : k < 11) : ((recM m k).st == 0) = false := by
  rw [rec_idle m (by omega), decide_eq_false (by omega)]
theorem flag_st (m : M) {i : Nat} (h : i < 6) : ((flagM m i).st == 0) = false := by
  rw [flag_eq h]; rfl
/-- A node alone, i bits after it was made, F failures behind it. -/
def Alone (f : Fm) (i : Nat) (m : M) (F : Nat) : Prop :=
  (i < 3 ∧ m = nw i ∧ F = 0) ∨
  ∃ (k t : Nat) (q : M), k ≤ 31 ∧ Quiet q k ∧ i = 3 + k * (f.ack.length + 9) + t ∧
    ((t = 0 ∧ m = q ∧ F = k) ∨ (0 < t ∧ t + 9 ≤ f.ack.length ∧ m = sendM q f t ∧ F = k) ∨
     (k < 31 ∧ f.ack.length < t + 9 ∧ t + 2 < f.ack.length ∧ m = flagM (nxM q f) (t + 8 - f.ack.length) ∧ F = k + 1) ∨
     (k < 31 ∧ f.ack.length ≤ t + 2 ∧ t < f.ack.length + 9 ∧ m = recM (nxM q f) (t + 2 - f.ack.length) ∧ F = k + 1))
theorem alone_start (f : Fm) : Alone f 0 M.new 0 := .inl ⟨by decide, rfl, rfl⟩
theorem alone_round {f : Fm} (h : f.Good) {i : Nat} {m : M} {F : Nat} (ha : Alone f i m F) : i < 8999 ∧ F ≤ 31 ∧
    (((m.st == 0) = true ∧ m.waits = false ∧ ∃ m1, m.ask f = (m1, 0) ∧ m1.drive = false ∧ ∃ m2, m1.sample false = (m2, [⟨6, Fm.zero, 0⟩]) ∧ Alone f (i + 1) m2 F) ∨
     ((m.st == 0) = false ∧ ∃ m2, m.sample m.drive = (m2, []) ∧ Alone f (i + 1) m2 F) ∨
     ((m.st == 0) = false ∧ ∃ m2, m.sample m.drive = (m2, [⟨4, f, 71⟩]) ∧ Alone f (i + 1) m2 (F + 1)) ∨
     ((m.st == 0) = false ∧ F = 31 ∧ ∃ z, m.sample m.drive = (z, [⟨4, f, 71⟩, ⟨7, Fm.zero, 0⟩]) ∧ z.st = 7 ∧ z.sent = 256)) := by
  have hl := ack_long h
  have hq0 : Quiet (nw 3) 0 := by rw [nw_idle (by decide)]; exact ⟨rfl, rfl, rfl, rfl, rfl⟩
  rcases ha with ⟨hi, rfl, rfl⟩ | ⟨k, t, q, hk, hq, hi, hc⟩
  · refine ⟨by omega, by omega, .inr (.inl ⟨?_, nw (i + 1), ?_, ?_⟩)⟩
    · match i, hi with
      | 0, _ => rfl
      | 1, _ => rfl
      | 2, _ => rfl
    · rw [nw_drive, nw_step]
    · by_cases h2 : i + 1 < 3
      · exact .inl ⟨h2, rfl, rfl⟩
      · have e : i + 1 = 3 := by omega
        rw [e]
        exact .inr ⟨0, 0, nw 3, by omega, hq0, by omega, .inl ⟨rfl, rfl, rfl⟩⟩
  · have hkl : k * (f.ack.length + 9) ≤ 31 * 255 := Nat.mul_le_mul hk (by omega)
    rcases hc with ⟨rfl, rfl, rfl⟩ | ⟨h0, h9, rfl, rfl⟩ | ⟨hk31, h1, h2, rfl, rfl⟩ | ⟨hk31, h1, h2, rfl, rfl⟩
    · refine ⟨by omega, hk, .inl ⟨by rw [hq.st]; rfl, hq.waits, _, quiet_ask hq h, quiet_low hq f, _, quiet_begin hq f, ?_⟩⟩
      exact .inr ⟨F, 1, m, hk, hq, by omega, .inr (.inl ⟨by decide, by omega, rfl, rfl⟩)⟩
    · by_cases h10 : t + 9 < f.ack.length
      · refine ⟨by omega, hk, .inr (.inl ⟨rfl, _, own_send h q h0 h10, ?_⟩)⟩
        exact .inr ⟨F, t + 1, q, hk, hq, by omega, .inr (.inl ⟨by omega, by omega, rfl, rfl⟩)⟩
      · have e : t = f.ack.length - 9 := by omega
        subst e
        by_cases h31 : F < 31
        · refine ⟨by omega, hk, .inr (.inr (.inl ⟨rfl, _, own_fail h hq h31, ?_⟩))⟩
          refine .inr ⟨F, f.ack.length - 9 + 1, q, hk, hq, by omega, .inr (.inr (.inl ⟨h31, by omega, by omega, ?_, rfl⟩))⟩
          rw [show f.ack.length - 9 + 1 + 8 - f.ack.length = 0 by omega]
        · have e : F = 31 := by omega
          subst e
          refine ⟨by omega, hk, .inr (.inr (.inr ⟨rfl, rfl, _, own_off h hq, rfl, ?_⟩))⟩
          show q.sent + 8 = 256
          rw [hq.sent]; rfl
    · refine ⟨by omega, by omega, .inr (.inl ⟨flag_st _ (by omega), _, flag_step _ (by omega) _, ?_⟩)⟩
      refine .inr ⟨k, t + 1, q, hk, hq, by omega, ?_⟩
      by_cases h3 : t + 3 < f.ack.length
      · refine .inr (.inr (.inl ⟨hk31, by omega, by omega, ?_, rfl⟩))
        rw [show t + 1 + 8 - f.ack.length = t + 8 - f.ack.length + 1 by omega]
      · refine .inr (.inr (.inr ⟨hk31, by omega, by omega, ?_, rfl⟩))
        rw [show t + 8 - f.ack.length + 1 = 6 by omega, show t + 1 + 2 - f.ack.length = 0 by omega]
        rfl
    · have hd : (recM (nxM q f) (t + 2 - f.ack.length)).sample (recM (nxM q f) (t + 2 - f.ack.length)).drive = (recM (nxM q f) (t + 2 - f.ack.length + 1), []) := by
        rw [rec_drive _ (by omega), rec_step _ (by omega)]
      refine ⟨by omega, by omega, .inr (.inl ⟨rec_st _ (by omega), _, hd, ?_⟩)⟩
      by_cases h8 : t + 1 < f.ack.length + 9
      · refine .inr ⟨k, t + 1, q, hk, hq, by omega, .inr (.inr (.inr ⟨hk31, by omega, by omega, ?_, rfl⟩))⟩
        rw [show t + 1 + 2 - f.ack.length = t + 2 - f.ack.length + 1 by omega]
      · have hm : (k + 1) * (f.ack.length + 9) = k * (f.ack.length + 9) + (f.ack.length + 9) := Nat.succ_mul _ _
        refine .inr ⟨k + 1, 0, recM (nxM q f) 11, by omega, quiet_next hq f, by omega, .inl ⟨rfl, ?_, rfl⟩⟩
        rw [show t + 2 - f.ack.length + 1 = 11 by omega]
end Go.Proofs.Ytpkpnaedacefaaa.MacW
