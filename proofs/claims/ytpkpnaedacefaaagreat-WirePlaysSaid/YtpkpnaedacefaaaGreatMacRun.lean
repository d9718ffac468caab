/- A reader behind some bits of a frame that is acknowledged. -/
import Derived.Test.YtpkpnaedacefaaaGreatMacSpec
import Derived.Test.YtpkpnaedacefaaaGreatCodeMath
import Derived.Test.YtpkpnaedacefaaaGreatCodeLaws
namespace Go.Proofs.YtpkpnaedacefaaaGreat.Mac
set_option linter.unusedVariables false
set_option linter.unusedSimpArgs false
open Go Go.Proofs.YtpkpnaedacefaaaGreat.Bits Go.Proofs.YtpkpnaedacefaaaGreat.BitsW Go.Proofs.YtpkpnaedacefaaaGreat.Frame Go.Proofs.YtpkpnaedacefaaaGreat.FrameW Go.Proofs.YtpkpnaedacefaaaGreat.Code Go.Proofs.YtpkpnaedacefaaaGreat.CodeW Go.Proofs.YtpkpnaedacefaaaGreat.CodeL
variable {S : List Bool} {H L : Nat}
theorem st_zero (F : Fr S H L) : st H L [] 0 false = Rd.zero := by
  have h3 := F.pos
  unfold st Rd.zero
  rw [if_pos (by simpa using h3)]
  rfl
/-- The reader behind j bits of them. -/
theorem rd_mid (F : Fr S H L) (j : Nat) (hj : j < (stuff S).length) : ∃ p k b, Rd.zero.all ((stuff S).take j) = st H L p k b := by
  obtain ⟨p, q, k, b, _, _, h, _⟩ := stuff_mid F S [] 0 false j rfl (by omega) hj
  rw [st_zero F] at h
  exact ⟨p, k, b, h⟩
theorem rd_end (F : Fr S H L) : ∃ k b ld, k ≤ 4 ∧ Rd.zero.all (stuff S) = fin k b S L 0 ld := by
  obtain ⟨_, k, b, ld, hk, h⟩ := stuff_pushes F S [] 0 false rfl (by omega)
  rw [st_zero F] at h
  exact ⟨k, b, ld, hk, h⟩
theorem fin_all (F : Fr S H L) {k : Nat} (hk : k ≤ 4) (b ld : Bool) : ∀ (t : List Bool) (en : Nat), (fin k b S L en ld).all t = fin k b S L (en + t.length) ld
  | [], _ => rfl
  | c :: t, en => by
    have ih := fin_all F hk b ld t (en + 1)
    unfold Rd.all
    rw [fin_push F k b en ld hk c, List.length_cons, show en + (t.length + 1) = en + 1 + t.length by omega]
    exact ih
/-- How far the reader is behind j bits of a frame, whatever stands behind it. -/
theorem rd_en (F : Fr S H L) (t : List Bool) (j : Nat) (hj : j ≤ (stuff S).length + t.length) : (Rd.zero.all ((stuff S ++ t).take j)).en = j - (stuff S).length := by
  by_cases h : j < (stuff S).length
  · obtain ⟨p, k, b, e⟩ := rd_mid F j h
    rw [List.take_append_of_le_length (by omega), e]
    show 0 = _
    omega
  · obtain ⟨k, b, ld, hk, e⟩ := rd_end F
    rw [List.take_append, all_append, List.take_of_length_le (by omega), e, fin_all F hk]
    show 0 + _ = _
    rw [List.length_take]
    omega
theorem rd_fin (F : Fr S H L) (t : List Bool) (j : Nat) (h : (stuff S).length ≤ j) (hj : j ≤ (stuff S).length + t.length) : ∃ k b ld, k ≤ 4 ∧ Rd.zero.all ((stuff S ++ t).take j) = fin k b S L (j - (stuff S).length) ld := by
  obtain ⟨k, b, ld, hk, e⟩ := rd_end F
  refine ⟨k, b, ld, hk, ?_⟩
  rw [List.take_append, all_append, List.take_of_length_le (by omega), e, fin_all F hk, List.length_take, Nat.zero_add, Nat.min_eq_left (by omega)]
theorem fine_at : ∀ (x : List Bool) (r : Rd) (j : Nat) (h : j < x.length), r.fine x → ((r.all (x.take j)).push x[j]).2 = 0
  | [], _, _, h, _ => by simp at h
  | c :: x, r, 0, _, hf => hf.1
  | c :: x, r, j + 1, h, hf => fine_at x (r.push c).1 j (by simpa using h) hf.2.2
theorem all_inv : ∀ (x : List Bool) (r : Rd), r.Inv → r.fine x → (r.all x).Inv
  | [], _, h, _ => h
  | c :: x, r, h, hf => all_inv x (r.push c).1 (h.push c hf.1).1 hf.2.2
/-- No bit of an acknowledged frame meets an error. -/
theorem rd_push (F : Fr S H L) (h0 : crcN S = 0) (j : Nat) (hj : j < (stuff S ++ ackT).length) : ((Rd.zero.all ((stuff S ++ ackT).take j)).push (stuff S ++ ackT)[j]).2 = 0 := by
  by_cases h : j < (stuff S).length
  · have := fine_at (stuff S) Rd.zero j h (stuff_fine F)
    rw [List.take_append_of_le_length (by omega), List.getElem_append_left h]
    exact this
  · have hl : ackT.length = 10 := rfl
    rw [List.length_append, hl] at hj
    obtain ⟨k, b, ld, hk, e⟩ := rd_fin F ackT j (by omega) (by omega)
    rw [e, fin_push F k b _ ld hk, List.getElem_append_right (by omega)]
    obtain ⟨i, hi⟩ : ∃ i, j - (stuff S).length = i := ⟨_, rfl⟩
    have hi10 : i < 10 := by omega
    simp only [hi, h0]
    match i, hi10 with
    | 0, _ => rfl
    | 1, _ => rfl
    | 2, _ => rfl
    | 3, _ => rfl
    | 4, _ => rfl
    | 5, _ => rfl
    | 6, _ => rfl
    | 7, _ => rfl
    | 8, _ => rfl
    | 9, _ => rfl
theorem take_snoc (x : List Bool) (j : Nat) (h : j < x.length) : x.take (j + 1) = x.take j ++ [x[j]] := by
  rw [List.take_add_one, List.getElem?_eq_getElem h]
  rfl
theorem all_snoc (x : List Bool) (r : Rd) (j : Nat) (h : j < x.length) : r.all (x.take (j + 1)) = ((r.all (x.take j)).push x[j]).1 := by
  rw [take_snoc x j h, all_append]
  rfl
theorem rd_inv (F : Fr S H L) (h0 : crcN S = 0) : ∀ j, j ≤ (stuff S ++ ackT).length → (Rd.zero.all ((stuff S ++ ackT).take j)).Inv
  | 0, _ => Rd.zero_inv
  | j + 1, h => by
    rw [all_snoc _ _ j (by omega)]
    exact ((rd_inv F h0 j (by omega)).push _ (rd_push F h0 j (by omega))).1
/-- It tells a right sum behind the last bit of it. -/
theorem rd_right (F : Fr S H L) (h0 : crcN S = 0) (j : Nat) (h : (stuff S).length ≤ j) (hj : j ≤ (stuff S).length + 10) : (Rd.zero.all ((stuff S ++ ackT).take j)).right = true := by
  obtain ⟨k, b, ld, hk, e⟩ := rd_fin F ackT j h hj
  rw [e]
  unfold Rd.right
  rw [fin_in F]
  show (!false && crcN S == 0) = true
  rw [h0]
  rfl
end Go.Proofs.YtpkpnaedacefaaaGreat.Mac


/- A node, step by step, over a frame that is acknowledged. -/
namespace Go.Proofs.YtpkpnaedacefaaaGreat.Mac
set_option linter.unusedVariables false
set_option linter.unusedSimpArgs false
open Go Go.Proofs.YtpkpnaedacefaaaGreat.Bits Go.Proofs.YtpkpnaedacefaaaGreat.BitsW Go.Proofs.YtpkpnaedacefaaaGreat.Frame Go.Proofs.YtpkpnaedacefaaaGreat.FrameW Go.Proofs.YtpkpnaedacefaaaGreat.Code Go.Proofs.YtpkpnaedacefaaaGreat.CodeW Go.Proofs.YtpkpnaedacefaaaGreat.CodeL
variable {S : List Bool} {H L : Nat}
theorem ackT_len : ackT.length = 10 := rfl
theorem app_len : (stuff S ++ ackT).length = (stuff S).length + 10 := by rw [List.length_append, ackT_len]
/-- What a listener drives. -/
theorem hear_drive (F : Fr S H L) (h0 : crcN S = 0) {m : M} {j : Nat} (h1 : m.st = 1) (ho : m.on = false) (hr : m.r = Rd.zero.all ((stuff S ++ ackT).take j)) (hj : j ≤ (stuff S).length + 10) :
    m.drive = !(decide (j = (stuff S).length + 1)) := by
  unfold M.drive
  rw [if_neg (by omega), if_pos h1, if_neg (by simp [ho]), hr, rd_en F ackT j (by rw [ackT_len]; exact hj)]
  by_cases h : j = (stuff S).length + 1
  · rw [rd_right F h0 j (by omega) hj]
    simp [h]
  · have : ¬ (j - (stuff S).length = 1) := by omega
    simp [h, this]
/-- A bit of a frame that it hears. -/
theorem hear_step (F : Fr S H L) (h0 : crcN S = 0) {m : M} {j : Nat} (h1 : m.st = 1) (ho : m.on = false) (hr : m.r = Rd.zero.all ((stuff S ++ ackT).take j)) (hj : j < (stuff S ++ ackT).length) :
    m.sample (stuff S ++ ackT)[j] = if j + 2 < (stuff S ++ ackT).length then ({ m with r := Rd.zero.all ((stuff S ++ ackT).take (j + 1)) }, [])
      else ({ m with r := Rd.zero.all ((stuff S ++ ackT).take (j + 1)), st := 2, got := if cOk m.sent m.got then gotC m.got true else m.got }, [⟨2, Fm.of (parseL S).1, 0⟩]) := by
  have hp : m.r.push (stuff S ++ ackT)[j] = (Rd.zero.all ((stuff S ++ ackT).take (j + 1)), 0) := by
    rw [hr, all_snoc _ _ j hj]
    exact Prod.ext rfl (rd_push F h0 j hj)
  unfold M.sample
  rw [if_neg (by omega), if_pos h1, if_neg (by simp [ho])]
  unfold M.hears
  rw [hp]
  simp only
  rw [if_neg (by simp), rd_en F ackT (j + 1) (by rw [app_len] at hj; rw [ackT_len]; omega)]
  rw [app_len] at hj ⊢
  by_cases h : j + 2 < (stuff S).length + 10
  · rw [if_pos h, if_pos (by omega)]
  · rw [if_neg h, if_neg (by omega)]
    obtain ⟨k, b, ld, _, e⟩ := rd_fin F ackT (j + 1) (by omega) (by rw [ackT_len]; omega)
    rw [e]
    rfl
theorem code_getD (j : Nat) (hj : j < (stuff S ++ ackT).length) : (stuff S ++ List.replicate 10 true).getD j false = if j = (stuff S).length + 1 then true else (stuff S ++ ackT)[j] := by
  rw [app_len] at hj
  by_cases h : j < (stuff S).length
  · rw [if_neg (by omega), List.getElem_append_left h, List.getD_eq_getElem?_getD, List.getElem?_append_left h, List.getElem?_eq_getElem h]
    rfl
  · obtain ⟨i, rfl⟩ : ∃ i, j = (stuff S).length + i := ⟨j - (stuff S).length, by omega⟩
    have hi : i < 10 := by omega
    rw [List.getElem_append_right (by omega), List.getD_eq_getElem?_getD, List.getElem?_append_right (by omega)]
    simp only [Nat.add_sub_cancel_left]
    match i, hi with
    | 0, _ => rw [if_neg (by omega)]; rfl
    | 1, _ => rw [if_pos rfl]; rfl
    | 2, _ => rw [if_neg (by omega)]; rfl
    | 3, _ => rw [if_neg (by omega)]; rfl
    | 4, _ => rw [if_neg (by omega)]; rfl
    | 5, _ => rw [if_neg (by omega)]; rfl
    | 6, _ => rw [if_neg (by omega)]; rfl
    | 7, _ => rw [if_neg (by omega)]; rfl
    | 8, _ => rw [if_neg (by omega)]; rfl
    | 9, _ => rw [if_neg (by omega)]; rfl
theorem send_drive {m : M} {j : Nat} (h1 : m.st = 1) (ho : m.on = true) (hb : m.bits = stuff S ++ List.replicate 10 true) (hp : m.pos = j) (hj : j < (stuff S ++ ackT).length) :
    m.drive = if j = (stuff S).length + 1 then true else (stuff S ++ ackT)[j] := by
  unfold M.drive
  rw [if_neg (by omega), if_pos h1, if_pos ho, hb, hp, code_getD j hj]
/-- A bit of a frame that it sends. -/
theorem send_step (F : Fr S H L) (h0 : crcN S = 0) {m : M} {j : Nat} (h1 : m.st = 1) (ho : m.on = true) (hb : m.bits = stuff S ++ List.replicate 10 true) (hp : m.pos = j) (ha : m.arb ≤ (stuff S).length)
    (hr : m.r = Rd.zero.all ((stuff S ++ ackT).take j)) (hj : j < (stuff S ++ ackT).length) :
    m.sample (stuff S ++ ackT)[j] = if j + 1 < (stuff S ++ ackT).length then ({ m with r := Rd.zero.all ((stuff S ++ ackT).take (j + 1)), pos := j + 1 }, [])
      else (M.pauses { m.done with r := Rd.zero.all ((stuff S ++ ackT).take (j + 1)), sent := if cOk m.sent m.got then sentC m.sent true else m.sent }, [⟨1, m.f, 0⟩]) := by
  have hpu : (m.r.push (stuff S ++ ackT)[j]).1 = Rd.zero.all ((stuff S ++ ackT).take (j + 1)) := by rw [hr, all_snoc _ _ j hj]
  have hl : m.bits.length = (stuff S).length + 10 := by rw [hb, List.length_append, List.length_replicate]
  have hd : m.bits.getD m.pos false = if j = (stuff S).length + 1 then true else (stuff S ++ ackT)[j] := by rw [hb, hp, code_getD j hj]
  have hk : (stuff S).length + 1 = j → (stuff S ++ ackT)[j] = false := by
    intro e
    subst e
    rw [List.getElem_append_right (by omega)]
    simp only [Nat.add_sub_cancel_left]
    rfl
  unfold M.sample
  rw [if_neg (by omega), if_pos h1, if_pos ho]
  unfold M.sends
  rw [hpu, hd, hl, hp]
  generalize (stuff S ++ ackT)[j] = c at hk
  rw [app_len]
  rw [app_len] at hj
  by_cases hq : j = (stuff S).length + 1
  · have hc := hk hq.symm
    subst hc
    rw [if_neg (by omega), if_neg (by simp), if_neg (by rintro ⟨h, _⟩; omega)]
  · rw [if_neg hq, if_neg (by rintro ⟨rfl, h, _⟩; cases h), if_neg (by rintro ⟨h, _⟩; omega), if_neg (by rintro ⟨_, h⟩; exact h rfl)]
end Go.Proofs.YtpkpnaedacefaaaGreat.Mac


/- A node's frame on the wire. -/
namespace Go.Proofs.YtpkpnaedacefaaaGreat.Mac
set_option linter.unusedVariables false
set_option linter.unusedSimpArgs false
open Go Go.Proofs.YtpkpnaedacefaaaGreat.Bits Go.Proofs.YtpkpnaedacefaaaGreat.BitsW Go.Proofs.YtpkpnaedacefaaaGreat.Frame Go.Proofs.YtpkpnaedacefaaaGreat.FrameW Go.Proofs.YtpkpnaedacefaaaGreat.Code Go.Proofs.YtpkpnaedacefaaaGreat.CodeW Go.Proofs.YtpkpnaedacefaaaGreat.CodeL
/-- A frame's bits, its sum among them, ahead of those laid between; and laid; and acknowledged. -/
def Fm.S (f : Fm) : List Bool := sumL (bodyL f.e f.i.toNat f.r f.d.data.toList)
def Fm.ack (f : Fm) : List Bool := stuff f.S ++ ackT
/-- A frame that may be sent. -/
structure Fm.Good (f : Fm) : Prop where
  ok : f.ok = true
  wf : f.wf
section
variable {f : Fm}
theorem f_fr (h : f.Good) : Fr f.S (hdr f.e) (bodyL f.e f.i.toNat f.r f.d.data.toList).length := sumL_fr _ _ _ _ (ok_len h.ok) (ok_rtr h.ok)
theorem f_zero (f : Fm) : crcN f.S = 0 := sumL_zero _
theorem f_code (h : f.Good) : f.code = stuff f.S ++ List.replicate 10 true := by
  unfold Fm.code
  rw [if_pos h.ok]
  rfl
theorem f_parse (h : f.Good) : Fm.of (parseL f.S).1 = f := by
  have hp := parse_body f.e f.i.toNat f.r f.d.data.toList (ofN (crcN (bodyL f.e f.i.toNat f.r f.d.data.toList)) 15) (ok_lt h.ok h.wf) (ok_len h.ok) (ok_rtr h.ok)
  rw [show bodyL f.e f.i.toNat f.r f.d.data.toList ++ ofN (crcN (bodyL f.e f.i.toNat f.r f.d.data.toList)) 15 = f.S from rfl] at hp
  rw [hp]
  obtain ⟨e, i, r, d⟩ := f
  have hi : ((i.toNat : Nat) : Int) = i := Int.toNat_of_nonneg h.wf.1
  have hd : (⟨d.data.toList.toArray⟩ : ByteArray) = d := by simp
  unfold Fm.of
  simp only [hi, hd]
theorem f_len (h : f.Good) : 34 ≤ (stuff f.S).length ∧ (stuff f.S).length ≤ 236 := frame_len _ _ _ _ (ok_len h.ok)
theorem ack_len (f : Fm) : f.ack.length = (stuff f.S).length + 10 := app_len
theorem f_ackF (h : f.Good) : ackF f.e f.i f.r f.d = B f.ack := ackF_ok h.ok
theorem stuff_first (c : Bool) (l : List Bool) : (stuff (c :: l))[0]? = some c := by
  unfold stuff
  rw [stuffL_cons]
  have : ∀ b, runK 0 b c ≠ 5 := by intro b; cases b <;> cases c <;> decide
  rw [if_neg (this _)]
  rfl
theorem S_first (f : Fm) : ∃ l, f.S = false :: l := by
  unfold Fm.S sumL bodyL arbL
  split <;> exact ⟨_, rfl⟩
theorem ack_first (f : Fm) : ∃ l, f.ack = false :: l := by
  obtain ⟨l, hl⟩ := S_first f
  have h := stuff_first false l
  rw [← hl] at h
  unfold Fm.ack
  cases hs : stuff f.S with
  | nil => rw [hs] at h; cases h
  | cons x t =>
    rw [hs] at h
    simp only [List.getElem?_cons_zero, Option.some.injEq] at h
    subst h
    exact ⟨_, rfl⟩
/-- The reader behind the first bit. -/
theorem rd_one (f : Fm) : (Rd.zero.push false).1 = Rd.zero.all (f.ack.take 1) := by
  obtain ⟨l, hl⟩ := ack_first f
  rw [hl]
  rfl
theorem f_arb (h : f.Good) : f.arb ≤ (stuff f.S).length := by
  unfold Fm.arb Fm.S sumL bodyL
  rw [if_pos h.ok, List.append_assoc, stuff, stuff, stuffL_append, List.length_append]
  omega
theorem ack_get (f : Fm) (h : 0 < f.ack.length) : f.ack[0] = false := by
  obtain ⟨l, hl⟩ := ack_first f
  simp only [hl, List.getElem_cons_zero]
/-- A frame's own bits, again. -/
theorem step_hear (h : f.Good) {m : M} {j : Nat} (h1 : m.st = 1) (ho : m.on = false) (hr : m.r = Rd.zero.all (f.ack.take j)) (hj : j < f.ack.length) :
    m.sample f.ack[j] = if j + 2 < f.ack.length then ({ m with r := Rd.zero.all (f.ack.take (j + 1)) }, [])
      else ({ m with r := Rd.zero.all (f.ack.take (j + 1)), st := 2, got := if cOk m.sent m.got then gotC m.got true else m.got }, [⟨2, f, 0⟩]) := by
  have := hear_step (f_fr h) (f_zero f) h1 ho hr hj
  rw [f_parse h] at this
  exact this
theorem step_send (h : f.Good) {m : M} {j : Nat} (h1 : m.st = 1) (ho : m.on = true) (hb : m.bits = f.code) (hp : m.pos = j) (ha : m.arb = f.arb) (hr : m.r = Rd.zero.all (f.ack.take j)) (hj : j < f.ack.length) :
    m.sample f.ack[j] = if j + 1 < f.ack.length then ({ m with r := Rd.zero.all (f.ack.take (j + 1)), pos := j + 1 }, [])
      else (M.pauses { m.done with r := Rd.zero.all (f.ack.take (j + 1)), sent := if cOk m.sent m.got then sentC m.sent true else m.sent }, [⟨1, m.f, 0⟩]) :=
  send_step (f_fr h) (f_zero f) h1 ho (by rw [hb, f_code h]) hp (by rw [ha]; exact f_arb h) hr hj
theorem drive_hear (h : f.Good) {m : M} {j : Nat} (h1 : m.st = 1) (ho : m.on = false) (hr : m.r = Rd.zero.all (f.ack.take j)) (hj : j ≤ f.ack.length) : m.drive = !(decide (j + 9 = f.ack.length)) := by
  rw [ack_len] at hj
  rw [hear_drive (f_fr h) (f_zero f) h1 ho hr hj, ack_len]
  congr 1
  rw [Bool.eq_iff_iff]
  simp only [decide_eq_true_eq]
  omega
theorem drive_send (h : f.Good) {m : M} {j : Nat} (h1 : m.st = 1) (ho : m.on = true) (hb : m.bits = f.code) (hp : m.pos = j) (hj : j < f.ack.length) : m.drive = if j + 9 = f.ack.length then true else f.ack[j] := by
  have := send_drive h1 ho (by rw [hb, f_code h]) hp hj
  rw [this]
  have hl := ack_len f
  by_cases h : j = (stuff f.S).length + 1
  · rw [if_pos h, if_pos (by omega)]
  · rw [if_neg h, if_neg (by omega)]
    rfl
/-- A frame begins. -/
theorem begins_hear (m : M) : m.begins false = ({ m with st := 1, r := Rd.zero.all (f.ack.take 1) }, [⟨6, Fm.zero, 0⟩]) := by
  unfold M.begins
  rw [if_neg (by simp), rd_one f]
theorem begins_send (m : M) : m.begins true = ({ m with st := 1, r := Rd.zero.all (f.ack.take 1), on := true, bits := m.f.code, arb := m.f.arb, pos := 1 }, [⟨6, Fm.zero, 0⟩]) := by
  unfold M.begins
  rw [if_pos rfl, rd_one f]
end
end Go.Proofs.YtpkpnaedacefaaaGreat.Mac
