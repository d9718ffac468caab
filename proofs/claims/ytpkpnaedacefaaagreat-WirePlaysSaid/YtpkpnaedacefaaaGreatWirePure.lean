/- Frames on a wire of many nodes: the one that sends, those that hear, those that lose; in plain Lean. -/
import Derived.Test.YtpkpnaedacefaaaGreatMacTwo
import Derived.Test.YtpkpnaedacefaaaGreatWireH
namespace Go.Proofs.YtpkpnaedacefaaaGreat.WireP
set_option linter.unusedVariables false
set_option linter.unusedSimpArgs false
open Go Go.Proofs.YtpkpnaedacefaaaGreat.Lib Go.Proofs.YtpkpnaedacefaaaGreat.Bits Go.Proofs.YtpkpnaedacefaaaGreat.BitsW Go.Proofs.YtpkpnaedacefaaaGreat.Frame Go.Proofs.YtpkpnaedacefaaaGreat.FrameW Go.Proofs.YtpkpnaedacefaaaGreat.Code Go.Proofs.YtpkpnaedacefaaaGreat.CodeW Go.Proofs.YtpkpnaedacefaaaGreat.CodeL Go.Proofs.YtpkpnaedacefaaaGreat.Mac Go.Proofs.YtpkpnaedacefaaaGreat.MacW Go.Proofs.YtpkpnaedacefaaaGreat.WireN Go.Proofs.YtpkpnaedacefaaaGreat.WireW
/-- A node at rest. -/
structure Rest (q : M) : Prop where
  st : q.st = 0
  waits : q.waits = false
  on : q.on = false
  f : q.f = Fm.zero
  bits : q.bits = []
  arb : q.arb = 0
  pos : q.pos = 0
  ok : cOk q.sent q.got = true
theorem rest_idle : Rest idleM := ⟨rfl, rfl, rfl, rfl, rfl, rfl, rfl, rfl⟩
theorem rest_drive {q : M} (h : Rest q) : q.drive = true := by
  unfold M.drive
  rw [if_pos h.st, h.waits]
  rfl
theorem rest_sample {q : M} (h : Rest q) : q.sample true = (q, []) := by
  unfold M.sample
  rw [if_pos h.st, if_pos rfl]
theorem rest_ask {q : M} (h : Rest q) {f : Fm} (hf : f.Good) : q.ask f = (sqM q f 0, 0) := by
  unfold M.ask
  rw [if_neg (by rw [h.st]; decide), if_neg (by rw [hf.ok]; decide), if_neg (by rw [h.waits]; decide)]
  unfold sqM
  rw [if_pos rfl]
  obtain ⟨h1, h2, h3, _, _, _, _, _⟩ := h
  rw [← h1, ← h3]
def gotD (q : M) : M := { q with got := gotC q.got true }
/-- A node that hears V from its first bit on; one that sends it; one that sends f and loses at bit D. -/
def lisM (q : M) (V : Fm) (j : Nat) : M := if j = 0 then q else if j + 1 < V.ack.length then hrM q V j else hrM (gotD q) V j
def winM (q : M) (V : Fm) (j : Nat) : M := if j < V.ack.length then sqM q V j else sqEnd q V
def losM (q : M) (V f : Fm) (D j : Nat) : M := if j ≤ D then sqM q f j else lisM q V j
theorem hear_next {f : Fm} (h : f.Good) {m : M} (hc : cOk m.sent m.got = true) {j : Nat} (hj : j + 1 < f.ack.length) (h1 : 0 < j) : (hrM m f j).sample (f.ack[j]'(by omega)) = (if j + 2 < f.ack.length then hrM m f (j + 1) else hrM (gotD m) f (j + 1), hrE f j) := by
  rw [hr_mid hj, step_hear h (m := hearM m f j) (j := j) rfl rfl rfl (by omega)]
  by_cases h2 : j + 2 < f.ack.length
  · have e : hrE f j = [] := by unfold hrE; rw [if_neg (by omega), if_neg (by omega)]
    rw [if_pos h2, if_pos h2, hr_mid (by omega), e]
    rfl
  · have e : hrE f j = [⟨2, f, 0⟩] := by unfold hrE; rw [if_neg (by omega), if_pos (by omega)]
    rw [if_neg h2, if_neg h2, hr_last (by omega), e]
    have e2 : (if cOk (hearM m f j).sent (hearM m f j).got = true then gotC (hearM m f j).got true else (hearM m f j).got) = gotC m.got true := by
      show (if cOk m.sent m.got = true then gotC m.got true else m.got) = _
      rw [if_pos hc]
    rw [e2]
    rfl
theorem lis_step {V : Fm} (hV : V.Good) {q : M} (hq : Rest q) {j : Nat} (hj : j < V.ack.length) : (lisM q V j).sample (bitAt V.ack j) = (lisM q V (j + 1), hrE V j) := by
  have hl := ack_long hV
  have e1 : lisM q V (j + 1) = if j + 2 < V.ack.length then hrM q V (j + 1) else hrM (gotD q) V (j + 1) := if_neg (by omega)
  rw [e1, bitAt_eq _ _ hj]
  by_cases h0 : j = 0
  · subst h0
    rw [ack_get V (by omega), if_pos (by omega), show lisM q V 0 = q from if_pos rfl]
    exact hr_first hV hq.st hq.waits hq.on
  · by_cases h1 : j + 1 < V.ack.length
    · have e0 : lisM q V j = hrM q V j := by unfold lisM; rw [if_neg h0, if_pos h1]
      rw [e0, hear_next hV hq.ok h1 (by omega)]
    · have e0 : lisM q V j = hrM (gotD q) V j := by unfold lisM; rw [if_neg h0, if_neg h1]
      rw [e0, if_neg (by omega)]
      exact hr_done hV (by omega) _
theorem lis_drive {V : Fm} (hV : V.Good) {q : M} (hq : Rest q) {j : Nat} (hj : j < V.ack.length) : (lisM q V j).drive = !(decide (j + 9 = V.ack.length)) := by
  have hl := ack_long hV
  unfold lisM
  by_cases h0 : j = 0
  · subst h0
    rw [if_pos rfl, rest_drive hq, decide_eq_false (by omega)]
    rfl
  · rw [if_neg h0]
    split
    · exact hr_drive hV hj
    · exact hr_drive hV hj
theorem win_step {V : Fm} (hV : V.Good) {q : M} {j : Nat} (hj : j < V.ack.length) : (winM q V j).sample (bitAt V.ack j) = (winM q V (j + 1), wiE V j) := by
  have hl := ack_long hV
  have e0 : winM q V j = sqM q V j := if_pos hj
  rw [e0, bitAt_eq _ _ hj]
  by_cases h1 : j + 1 < V.ack.length
  · have e1 : winM q V (j + 1) = sqM q V (j + 1) := if_pos h1
    rw [e1, sq_step hV h1]
    unfold wiE
    rw [if_neg (show ¬ j + 1 = V.ack.length by omega)]
  · have e1 : winM q V (j + 1) = sqEnd q V := if_neg h1
    rw [e1, sq_last hV (by omega)]
    unfold wiE
    rw [if_neg (by omega), if_pos (by omega)]
theorem win_drive {V : Fm} (hV : V.Good) {q : M} {j : Nat} (hj : j < V.ack.length) : (winM q V j).drive = if j + 9 = V.ack.length then true else bitAt V.ack j := by
  have e0 : winM q V j = sqM q V j := if_pos hj
  rw [e0, sq_drive hV hj, bitAt_eq _ _ hj]
theorem los_step {W L : Fm} {D : Nat} (hW : W.Good) (hL : L.Good) (A : Apart W L D) {q : M} (hq : Rest q) {j : Nat} (hj : j < W.ack.length) : (losM q W L D j).sample (bitAt W.ack j) = (losM q W L D (j + 1), loE W L D j) := by
  have hd := A.pos
  have h1 := A.ltL
  have h2 := A.ltW
  have r1 := arb_room hL
  have r2 := arb_room hW
  by_cases hlt : j < D
  · have e0 : losM q W L D j = sqM q L j := if_pos (by omega)
    have e1 : losM q W L D (j + 1) = sqM q L (j + 1) := if_pos (by omega)
    rw [e0, e1, A.eq j hlt, bitAt_eq _ _ (by omega), sq_step hL (by omega)]
    congr 1
    unfold loE
    by_cases h0 : j = 0
    · rw [if_pos h0, if_pos h0]
    · rw [if_neg h0, if_neg h0, if_pos hlt]
  · have e1 : losM q W L D (j + 1) = lisM q W (j + 1) := if_neg (by omega)
    by_cases hD : j = D
    · subst hD
      have e0 : losM q W L j j = sendM q L j := by
        unfold losM sqM
        rw [if_pos (Nat.le_refl _), if_neg (by omega)]
      have hE : loE W L j j = [⟨3, L, 0⟩] := by unfold loE; rw [if_neg (by omega), if_neg (by omega), if_pos rfl]
      have o : OnOk (sendM q L j) := ⟨rfl, rfl, rfl, rfl, hd, by show j < L.ack.length; omega, rfl⟩
      have hs : ∀ c, (sendM q L j).sample c = (sendM q L j).sends c := by
        intro c
        unfold M.sample
        rw [if_neg (by show ¬ (1 : Int) = 0; decide), if_pos (by show (1 : Int) = 1; rfl), if_pos (by show true = true; rfl)]
      have hbl : L.ack[j]'(by omega) = true := by rw [← bitAt_eq L.ack j (by omega)]; exact A.l
      rw [e0, e1, hE, A.w, hs]
      rcases on_cases (m := sendM q L j) hL o false with ⟨_, k⟩ | ⟨_, k, _⟩ | ⟨_, _, k, _⟩ | ⟨k, _⟩ | ⟨k, _⟩
      · rw [k]
        have hh : (sendM q L j).done.hears false = (hrM q W j).sample (W.ack[j]) := by
          have hb : W.ack[j] = false := by rw [← bitAt_eq W.ack j hj]; exact A.w
          have er : Rd.zero.all (L.ack.take j) = Rd.zero.all (W.ack.take j) := by rw [take_same (by omega) (by omega) A.eq]
          have em : hearM q W j = (sendM q L j).done := by
            obtain ⟨s1, s2, s3, s4, s5, s6, s7, _⟩ := hq
            unfold hearM sendM M.done
            rw [← er, s2, s4, s5, s6, s7]
          rw [hb, hr_mid (by omega), em]
          unfold M.sample
          rw [if_neg (by show ¬ (1 : Int) = 0; decide), if_pos (by show (1 : Int) = 1; rfl), if_neg (by show ¬ false = true; decide)]
        rw [hh, hear_next hW hq.ok (by omega) hd, if_pos (by omega)]
        have hE2 : hrE W j = [] := by unfold hrE; rw [if_neg (by omega), if_neg (by omega)]
        have e2 : lisM q W (j + 1) = hrM q W (j + 1) := by unfold lisM; rw [if_neg (by omega), if_pos (by omega)]
        rw [hE2, e2]
        rfl
      · cases k
      · exact absurd ⟨rfl, by exact h1⟩ k
      · have : L.ack[j]'(by omega) = false := k.symm
        rw [hbl] at this; cases this
      · have : L.ack[j]'(by omega) = false := k.symm
        rw [hbl] at this; cases this
    · have e0 : losM q W L D j = lisM q W j := if_neg (by omega)
      have hE : loE W L D j = hrE W j := by unfold loE; rw [if_neg (by omega), if_neg (by omega), if_neg hD]
      rw [e0, e1, hE]
      exact lis_step hW hq hj
theorem los_drive {W L : Fm} {D : Nat} (hW : W.Good) (hL : L.Good) (A : Apart W L D) {q : M} (hq : Rest q) {j : Nat} (hj : j < W.ack.length) : (losM q W L D j).drive = if j ≤ D then bitAt L.ack j else !(decide (j + 9 = W.ack.length)) := by
  have hd := A.pos
  have h1 := A.ltL
  have r1 := arb_room hL
  unfold losM
  by_cases hlt : j ≤ D
  · rw [if_pos hlt, if_pos hlt, sq_drive hL (by omega), if_neg (by omega), bitAt_eq _ _ (by omega)]
  · rw [if_neg hlt, if_neg hlt]
    exact lis_drive hW hq hj
/-- A node in the pause behind a frame. -/
def pauM (m : M) (k : Nat) : M := if k < 3 then { m with st := 6, left := 3 - (k : Int) } else { m with st := 0, left := 0 }
theorem pau_step (m : M) (k : Nat) (h : k < 3) : (pauM m k).sample true = (pauM m (k + 1), []) := by
  match k, h with
  | 0, _ => rfl
  | 1, _ => rfl
  | 2, _ => rfl
theorem pau_drive (m : M) (k : Nat) (h : k < 3) : (pauM m k).drive = true := by
  match k, h with
  | 0, _ => rfl
  | 1, _ => rfl
  | 2, _ => rfl
theorem pau_end (m : M) {k : Nat} (h : 3 ≤ k) : pauM m k = { m with st := 0, left := 0 } := if_neg (by omega)
theorem win_pau (q : M) {V : Fm} (hV : V.Good) : winM q V V.ack.length = pauM (sqEnd q V) 0 := if_neg (by omega)
theorem lis_pau (q : M) {V : Fm} (hV : V.Good) : lisM q V V.ack.length = pauM (hrM (gotD q) V V.ack.length) 0 := by
  have hl := ack_long hV
  unfold lisM
  rw [if_neg (by omega), if_neg (by omega), hr_end rfl]
  rfl
/-- Behind the pause all are at rest again. -/
def winR (q : M) (V : Fm) : M := { sqEnd q V with st := 0, left := 0 }
def lisR (q : M) (V : Fm) : M := { hrM (gotD q) V V.ack.length with st := 0, left := 0 }
theorem gotC_ok {s g : Int} (h : cOk s g = true) (b : Bool) : cOk s (gotC g b) = true := by
  unfold cOk at h ⊢
  simp only [Bool.and_eq_true, decide_eq_true_eq] at h ⊢
  unfold gotC
  cases b
  · simp only [Bool.false_eq_true, if_false]; omega
  · simp only [if_true]; split <;> omega
theorem sentC_ok {s g : Int} (h : cOk s g = true) (b : Bool) : cOk (sentC s b) g = true := by
  unfold cOk at h ⊢
  simp only [Bool.and_eq_true, decide_eq_true_eq] at h ⊢
  unfold sentC
  cases b
  · simp only [Bool.false_eq_true, if_false]; omega
  · simp only [if_true]; omega
theorem win_rest {q : M} (hq : Rest q) (V : Fm) : Rest (winR q V) := ⟨rfl, rfl, rfl, rfl, rfl, rfl, rfl, by
  show cOk (if cOk q.sent q.got = true then sentC q.sent true else q.sent) q.got = true
  rw [if_pos hq.ok]
  exact sentC_ok hq.ok true⟩
theorem lis_rest {q : M} (hq : Rest q) (V : Fm) : Rest (lisR q V) := by
  obtain ⟨s1, s2, s3, s4, s5, s6, s7, s8⟩ := hq
  have e := hr_end (m := gotD q) (f := V) rfl
  unfold lisR
  rw [e]
  exact ⟨rfl, s2, rfl, s4, s5, s6, s7, gotC_ok s8 true⟩
theorem win_counts {q : M} (hq : Rest q) (V : Fm) : (winR q V).sent = sentC q.sent true ∧ (winR q V).got = q.got := ⟨if_pos hq.ok, rfl⟩
theorem lis_counts (q : M) (V : Fm) : (lisR q V).sent = q.sent ∧ (lisR q V).got = gotC q.got true := by
  have e := hr_end (m := gotD q) (f := V) rfl
  unfold lisR
  rw [e]
  exact ⟨rfl, rfl⟩
/-- What all drive. -/
def allD (ms : Nat → M) (n : Nat) : Bool := (List.range n).all fun i => (ms i).drive
theorem allD_eq {ms : Nat → M} {n : Nat} {b : Bool} (h : ∀ i, i < n → b = true → (ms i).drive = true) (h0 : b = false → ∃ i, i < n ∧ (ms i).drive = false) : allD ms n = b := by
  unfold allD
  cases b
  · obtain ⟨i, hi, e⟩ := h0 rfl
    rw [List.all_eq_false]
    exact ⟨i, List.mem_range.2 hi, by rw [e]; decide⟩
  · rw [List.all_eq_true]
    intro i hi
    exact h i (List.mem_range.1 hi) rfl
theorem lvls_all (ms : Nat → M) (n : Nat) : (lvls ms n).contains 48 = !(allD ms n) := by
  unfold lvls allD
  induction n with
  | zero => rfl
  | succ n ih =>
    rw [List.range_succ, List.map_append, List.all_append, List.contains_append, ih]
    cases h : (ms n).drive <;> simp [h, sg]
theorem cb_eq (c : Gc) : cb c = (allD c.ms c.n != c.t) := by
  unfold cb
  rw [lvls_all]
  cases allD c.ms c.n <;> cases c.t <;> rfl
/-- A bit time, told node by node. -/
theorem step_of {c : Gc} {flip b : Bool} {ms' : Nat → M} {E : Nat → List Ev} (hb : (allD c.ms c.n != (c.t || flip)) = b) (hs : ∀ i, i < c.n → (c.ms i).sample b = (ms' i, E i)) :
    (∀ i, i < c.n → (c.step flip).ms i = ms' i) ∧ (∀ i, i < c.n → (c.step flip).hs i = keep (c.hs i ++ E i)) ∧ c.evs flip = (List.range c.n).flatMap E ∧ (c.step flip).l = more c.l b := by
  have e : cb (c.turned flip) = b := by rw [cb_eq]; exact hb
  refine ⟨fun i hi => ?_, fun i hi => ?_, ?_, ?_⟩
  · show (if i < c.n then ((c.ms i).sample (cb (c.turned flip))).1 else c.ms i) = ms' i
    rw [if_pos hi, e, hs i hi]
  · show (if i < c.n then keep (c.hs i ++ ((c.ms i).sample (cb (c.turned flip))).2) else c.hs i) = _
    rw [if_pos hi, e, hs i hi]
  · show (List.range c.n).flatMap (fun i => ((c.ms i).sample (cb (c.turned flip))).2) = _
    rw [e]
    have : ∀ l : List Nat, (∀ i ∈ l, i < c.n) → l.flatMap (fun i => ((c.ms i).sample b).2) = l.flatMap E := by
      intro l
      induction l with
      | nil => intro _; rfl
      | cons x l ih => intro h; rw [List.flatMap_cons, List.flatMap_cons, ih (fun i hi => h i (List.mem_cons_of_mem _ hi)), hs x (h x List.mem_cons_self)]
    exact this _ (fun i hi => List.mem_range.1 hi)
  · show more c.l (cb (c.turned flip)) = _
    rw [e]
end Go.Proofs.YtpkpnaedacefaaaGreat.WireP


/- One frame on a new wire, in plain Lean. -/
namespace Go.Proofs.YtpkpnaedacefaaaGreat.WireP
set_option linter.unusedVariables false
set_option linter.unusedSimpArgs false
open Go Go.Proofs.YtpkpnaedacefaaaGreat.Lib Go.Proofs.YtpkpnaedacefaaaGreat.Bits Go.Proofs.YtpkpnaedacefaaaGreat.BitsW Go.Proofs.YtpkpnaedacefaaaGreat.Frame Go.Proofs.YtpkpnaedacefaaaGreat.FrameW Go.Proofs.YtpkpnaedacefaaaGreat.Code Go.Proofs.YtpkpnaedacefaaaGreat.CodeW Go.Proofs.YtpkpnaedacefaaaGreat.CodeL Go.Proofs.YtpkpnaedacefaaaGreat.Mac Go.Proofs.YtpkpnaedacefaaaGreat.MacW Go.Proofs.YtpkpnaedacefaaaGreat.WireN Go.Proofs.YtpkpnaedacefaaaGreat.WireW
def askNew (f : Fm) : M := { M.new with waits := true, f := f }
/-- The one that sends, those that hear, the wire, behind i bits. -/
def oneS (f : Fm) (i : Nat) : M := if i < 3 then pauM (askNew f) i else if i < 3 + f.ack.length then winM idleM f (i - 3) else pauM (sqEnd idleM f) (i - 3 - f.ack.length)
def oneL (f : Fm) (i : Nat) : M := if i < 3 then pauM M.new i else if i < 3 + f.ack.length then lisM idleM f (i - 3) else pauM (hrM (gotD idleM) f f.ack.length) (i - 3 - f.ack.length)
def oneC (f : Fm) (i : Nat) : Bool := if i < 3 then true else if i < 3 + f.ack.length then bitAt f.ack (i - 3) else true
def oneSE (f : Fm) (i : Nat) : List Ev := if i < 3 then [] else if i < 3 + f.ack.length then wiE f (i - 3) else []
def oneLE (f : Fm) (i : Nat) : List Ev := if i < 3 then [] else if i < 3 + f.ack.length then hrE f (i - 3) else []
theorem pau_rest {m : M} (h : Rest { m with st := 0, left := 0 }) (k : Nat) : (pauM m k).sample true = (pauM m (k + 1), []) ∧ (pauM m k).drive = true := by
  by_cases hk : k < 3
  · exact ⟨pau_step m k hk, pau_drive m k hk⟩
  · rw [pau_end m (by omega), pau_end m (by omega)]
    exact ⟨rest_sample h, rest_drive h⟩
theorem oneS_step {f : Fm} (h : f.Good) (i : Nat) : (oneS f i).sample (oneC f i) = (oneS f (i + 1), oneSE f i) := by
  have hl := ack_long h
  unfold oneC oneSE
  by_cases h1 : i < 3
  · rw [if_pos h1, if_pos h1, show oneS f i = pauM (askNew f) i from if_pos h1, pau_step _ _ h1]
    congr 1
    unfold oneS
    by_cases h2 : i + 1 < 3
    · rw [if_pos h2]
    · obtain rfl : i = 2 := by omega
      rw [if_neg h2, if_pos (by omega)]
      show pauM (askNew f) 3 = winM idleM f 0
      unfold winM
      rw [if_pos (by omega)]
      rfl
  · rw [if_neg h1, if_neg h1]
    by_cases h2 : i < 3 + f.ack.length
    · have e0 : oneS f i = winM idleM f (i - 3) := by unfold oneS; rw [if_neg h1, if_pos h2]
      rw [if_pos h2, if_pos h2, e0, win_step h (by omega)]
      congr 1
      unfold oneS
      rw [if_neg (by omega)]
      by_cases h3 : i + 1 < 3 + f.ack.length
      · rw [if_pos h3, show i + 1 - 3 = i - 3 + 1 by omega]
      · rw [if_neg h3, show i - 3 + 1 = f.ack.length by omega, win_pau _ h, show i + 1 - 3 - f.ack.length = 0 by omega]
    · have e0 : oneS f i = pauM (sqEnd idleM f) (i - 3 - f.ack.length) := by unfold oneS; rw [if_neg h1, if_neg h2]
      rw [if_neg h2, if_neg h2, e0, (pau_rest (win_rest rest_idle f) _).1]
      congr 1
      unfold oneS
      rw [if_neg (by omega), if_neg (by omega), show i + 1 - 3 - f.ack.length = i - 3 - f.ack.length + 1 by omega]
theorem oneL_step {f : Fm} (h : f.Good) (i : Nat) : (oneL f i).sample (oneC f i) = (oneL f (i + 1), oneLE f i) := by
  have hl := ack_long h
  unfold oneC oneLE
  by_cases h1 : i < 3
  · rw [if_pos h1, if_pos h1, show oneL f i = pauM M.new i from if_pos h1, pau_step _ _ h1]
    congr 1
    unfold oneL
    by_cases h2 : i + 1 < 3
    · rw [if_pos h2]
    · obtain rfl : i = 2 := by omega
      rw [if_neg h2, if_pos (by omega)]
      rfl
  · rw [if_neg h1, if_neg h1]
    by_cases h2 : i < 3 + f.ack.length
    · have e0 : oneL f i = lisM idleM f (i - 3) := by unfold oneL; rw [if_neg h1, if_pos h2]
      rw [if_pos h2, if_pos h2, e0, lis_step h rest_idle (by omega)]
      congr 1
      unfold oneL
      rw [if_neg (by omega)]
      by_cases h3 : i + 1 < 3 + f.ack.length
      · rw [if_pos h3, show i + 1 - 3 = i - 3 + 1 by omega]
      · rw [if_neg h3, show i - 3 + 1 = f.ack.length by omega, lis_pau _ h, show i + 1 - 3 - f.ack.length = 0 by omega]
    · have e0 : oneL f i = pauM (hrM (gotD idleM) f f.ack.length) (i - 3 - f.ack.length) := by unfold oneL; rw [if_neg h1, if_neg h2]
      rw [if_neg h2, if_neg h2, e0, (pau_rest (lis_rest rest_idle f) _).1]
      congr 1
      unfold oneL
      rw [if_neg (by omega), if_neg (by omega), show i + 1 - 3 - f.ack.length = i - 3 - f.ack.length + 1 by omega]
theorem one_hi {f : Fm} (h : f.Good) (i : Nat) (hc : oneC f i = true) : (oneS f i).drive = true ∧ (oneL f i).drive = true := by
  have hl := ack_long h
  unfold oneC at hc
  by_cases h1 : i < 3
  · rw [show oneS f i = pauM (askNew f) i from if_pos h1, show oneL f i = pauM M.new i from if_pos h1]
    exact ⟨pau_drive _ _ h1, pau_drive _ _ h1⟩
  · rw [if_neg h1] at hc
    by_cases h2 : i < 3 + f.ack.length
    · rw [if_pos h2] at hc
      have e0 : oneS f i = winM idleM f (i - 3) := by unfold oneS; rw [if_neg h1, if_pos h2]
      have e1 : oneL f i = lisM idleM f (i - 3) := by unfold oneL; rw [if_neg h1, if_pos h2]
      have h9 : ¬ i - 3 + 9 = f.ack.length := fun e => by rw [ack_at9 e] at hc; cases hc
      rw [e0, e1, win_drive h (by omega), lis_drive h rest_idle (by omega), if_neg h9, hc, decide_eq_false h9]
      exact ⟨rfl, rfl⟩
    · have e0 : oneS f i = pauM (sqEnd idleM f) (i - 3 - f.ack.length) := by unfold oneS; rw [if_neg h1, if_neg h2]
      have e1 : oneL f i = pauM (hrM (gotD idleM) f f.ack.length) (i - 3 - f.ack.length) := by unfold oneL; rw [if_neg h1, if_neg h2]
      rw [e0, e1]
      exact ⟨(pau_rest (win_rest rest_idle f) _).2, (pau_rest (lis_rest rest_idle f) _).2⟩
theorem one_lo {f : Fm} (h : f.Good) (i : Nat) (hc : oneC f i = false) : (oneS f i).drive = false ∨ (oneL f i).drive = false := by
  have hl := ack_long h
  unfold oneC at hc
  by_cases h1 : i < 3
  · rw [if_pos h1] at hc; cases hc
  · rw [if_neg h1] at hc
    by_cases h2 : i < 3 + f.ack.length
    · rw [if_pos h2] at hc
      have e0 : oneS f i = winM idleM f (i - 3) := by unfold oneS; rw [if_neg h1, if_pos h2]
      have e1 : oneL f i = lisM idleM f (i - 3) := by unfold oneL; rw [if_neg h1, if_pos h2]
      rw [e0, e1, win_drive h (by omega), lis_drive h rest_idle (by omega), hc]
      by_cases h9 : i - 3 + 9 = f.ack.length
      · exact .inr (by rw [decide_eq_true h9]; rfl)
      · exact .inl (if_neg h9)
    · rw [if_neg h2] at hc; cases hc
/-- What was heard. -/
def hearS (f : Fm) (i : Nat) : List Ev := if i ≤ 3 then [] else if i < 3 + f.ack.length then [⟨6, Fm.zero, 0⟩] else [⟨6, Fm.zero, 0⟩, ⟨1, f, 0⟩]
def hearL (f : Fm) (i : Nat) : List Ev := if i ≤ 3 then [] else if i + 1 < 3 + f.ack.length then [⟨6, Fm.zero, 0⟩] else [⟨6, Fm.zero, 0⟩, ⟨2, f, 0⟩]
theorem keep_few {l : List Ev} (h : l.length ≤ 100) : keep l = l := by unfold keep; rw [show l.length - 100 = 0 by omega]; rfl
theorem hearS_step {f : Fm} (h : f.Good) (i : Nat) : keep (hearS f i ++ oneSE f i) = hearS f (i + 1) := by
  have hl := ack_long h
  unfold hearS oneSE wiE
  by_cases h1 : i < 3
  · rw [if_pos (by omega), if_pos h1, if_pos (by omega)]; rfl
  · by_cases h3 : i = 3
    · subst h3
      rw [if_pos (by omega), if_neg h1, if_pos (by omega), if_pos rfl, if_neg (by omega), if_pos (by omega)]; rfl
    · rw [if_neg (by omega), if_neg h1, if_neg (show ¬ i + 1 ≤ 3 by omega)]
      by_cases h2 : i < 3 + f.ack.length
      · rw [if_pos h2, if_pos h2, if_neg (by omega)]
        by_cases h4 : i - 3 + 1 = f.ack.length
        · rw [if_pos h4, if_neg (by omega)]; rfl
        · rw [if_neg h4, if_pos (by omega)]; rfl
      · rw [if_neg h2, if_neg h2, if_neg (by omega)]; rfl
theorem hearL_step {f : Fm} (h : f.Good) (i : Nat) : keep (hearL f i ++ oneLE f i) = hearL f (i + 1) := by
  have hl := ack_long h
  unfold hearL oneLE hrE
  by_cases h1 : i < 3
  · rw [if_pos (by omega), if_pos h1, if_pos (by omega)]; rfl
  · by_cases h3 : i = 3
    · subst h3
      rw [if_pos (by omega), if_neg h1, if_pos (by omega), if_pos rfl, if_neg (by omega), if_pos (by omega)]; rfl
    · rw [if_neg (by omega), if_neg h1, if_neg (show ¬ i + 1 ≤ 3 by omega)]
      by_cases h2 : i + 1 < 3 + f.ack.length
      · rw [if_pos h2, if_pos (by omega), if_neg (by omega)]
        by_cases h4 : i - 3 + 2 = f.ack.length
        · rw [if_pos h4, if_neg (by omega)]; rfl
        · rw [if_neg h4, if_pos (by omega)]; rfl
      · rw [if_neg h2, if_neg (show ¬ i + 1 + 1 < 3 + f.ack.length by omega)]
        by_cases h5 : i < 3 + f.ack.length
        · rw [if_pos h5, if_neg (by omega), if_neg (by omega)]; rfl
        · rw [if_neg h5]; rfl
/-- The wire behind i bits: k nodes, number s sends f. -/
structure One (k s : Nat) (f : Fm) (i : Nat) (c : Gc) : Prop where
  n : c.n = k
  t : c.t = false
  bn : c.bn = i
  ms : ∀ j, j < k → c.ms j = if j = s then oneS f i else oneL f i
  hs : ∀ j, j < k → c.hs j = if j = s then hearS f i else hearL f i
theorem one_start {k s : Nat} {f : Fm} (hf : f.Good) (hs : s < k) : One k s f 0 ((Gc.new k).ask s f) ∧ (((Gc.new k).ms s).ask f).2 = 0 := by
  have e : M.new.ask f = (askNew f, 0) := by
    unfold M.ask
    rw [if_neg (by decide), if_neg (by rw [hf.ok]; decide), if_neg (by decide)]
    rfl
  refine ⟨⟨rfl, rfl, rfl, fun j hj => ?_, fun j hj => ?_⟩, by show (M.new.ask f).2 = 0; rw [e]⟩
  · show WireW.upd (fun _ => M.new) s (M.new.ask f).1 j = _
    rw [e]
    unfold WireW.upd oneS oneL
    rw [if_pos (show 0 < 3 by decide), if_pos (show 0 < 3 by decide)]
    rfl
  · show ([] : List Ev) = _
    unfold hearS hearL
    rw [if_pos (Nat.zero_le 3), if_pos (Nat.zero_le 3), ite_self]
theorem One.step {k s : Nat} {f : Fm} {i : Nat} {c : Gc} (h : One k s f i c) (hf : f.Good) (hs : s < k) (hk : 2 ≤ k) : One k s f (i + 1) (c.step false) ∧ c.evs false = (List.range k).flatMap (fun j => if j = s then oneSE f i else oneLE f i) := by
  have hw : (allD c.ms c.n != (c.t || false)) = oneC f i := by
    have : allD c.ms c.n = oneC f i := by
      refine allD_eq (fun j hj hc => ?_) (fun hc => ?_)
      · rw [h.ms j (h.n ▸ hj)]
        have := one_hi hf i hc
        split
        · exact this.1
        · exact this.2
      · rcases one_lo hf i hc with e | e
        · exact ⟨s, by rw [h.n]; exact hs, by rw [h.ms s hs, if_pos rfl]; exact e⟩
        · obtain ⟨j, hj, hne⟩ : ∃ j, j < k ∧ j ≠ s := if hs0 : s = 0 then ⟨1, by omega, by omega⟩ else ⟨0, by omega, by omega⟩
          exact ⟨j, by rw [h.n]; exact hj, by rw [h.ms j hj, if_neg hne]; exact e⟩
    rw [this, h.t]
    cases oneC f i <;> rfl
  obtain ⟨q1, q2, q3, _⟩ := step_of (ms' := fun j => if j = s then oneS f (i + 1) else oneL f (i + 1)) (E := fun j => if j = s then oneSE f i else oneLE f i) hw (fun j hj => by
    rw [h.ms j (h.n ▸ hj)]
    by_cases hjs : j = s
    · rw [if_pos hjs, if_pos hjs, if_pos hjs]; exact oneS_step hf i
    · rw [if_neg hjs, if_neg hjs, if_neg hjs]; exact oneL_step hf i)
  rw [h.n] at q1 q2 q3
  refine ⟨⟨h.n, rfl, by show c.bn + 1 = _; rw [h.bn], q1, fun j hj => ?_⟩, q3⟩
  rw [q2 j hj, h.hs j hj]
  by_cases hjs : j = s
  · rw [if_pos hjs, if_pos hjs, if_pos hjs]; exact hearS_step hf i
  · rw [if_neg hjs, if_neg hjs, if_neg hjs]; exact hearL_step hf i
end Go.Proofs.YtpkpnaedacefaaaGreat.WireP
