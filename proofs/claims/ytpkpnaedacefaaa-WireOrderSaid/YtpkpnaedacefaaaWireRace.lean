/- Several frames asked for at once, again and again until all are gone, in plain Lean. -/
import Derived.Test.YtpkpnaedacefaaaWireCmp
namespace Go.Proofs.Ytpkpnaedacefaaa.WireP
set_option linter.unusedVariables false
set_option linter.unusedSimpArgs false
open Go Go.Proofs.Ytpkpnaedacefaaa.Lib Go.Proofs.Ytpkpnaedacefaaa.Bits Go.Proofs.Ytpkpnaedacefaaa.BitsW Go.Proofs.Ytpkpnaedacefaaa.Frame Go.Proofs.Ytpkpnaedacefaaa.FrameW Go.Proofs.Ytpkpnaedacefaaa.Code Go.Proofs.Ytpkpnaedacefaaa.CodeW Go.Proofs.Ytpkpnaedacefaaa.CodeL Go.Proofs.Ytpkpnaedacefaaa.Mac Go.Proofs.Ytpkpnaedacefaaa.MacW Go.Proofs.Ytpkpnaedacefaaa.WireN Go.Proofs.Ytpkpnaedacefaaa.WireW
theorem pau_six (m : M) {k : Nat} (h : k < 3) : (pauM m k).st = 6 := by unfold pauM; rw [if_pos h]
/-- The frames: good ones, no two alike in what they win by. -/
structure Fs (n : Nat) (S : Nat → Fm) : Prop where
  pos : 1 ≤ n
  most : n ≤ 4
  good : ∀ i, i < n → (S i).Good
  ne : ∀ i k, i < n → k < n → i ≠ k → cmpF (S i) (S k) ≠ 0
/-- How many wait. -/
def cntW (w : Nat → Bool) : Nat → Nat
  | 0 => 0
  | n + 1 => cntW w n + if w n then 1 else 0
theorem cntW_le (w : Nat → Bool) : ∀ n, cntW w n ≤ n
  | 0 => Nat.le_refl _
  | n + 1 => by have := cntW_le w n; unfold cntW; split <;> omega
theorem cntW_pos {w : Nat → Bool} : ∀ {n : Nat}, 0 < cntW w n → ∃ i, i < n ∧ w i = true
  | 0, h => absurd h (Nat.lt_irrefl 0)
  | n + 1, h => by
    unfold cntW at h
    by_cases hn : w n = true
    · exact ⟨n, Nat.lt_succ_self n, hn⟩
    · rw [if_neg hn] at h
      obtain ⟨i, h1, h2⟩ := cntW_pos (n := n) h
      exact ⟨i, by omega, h2⟩
theorem cntW_congr {w w' : Nat → Bool} : ∀ n, (∀ i, i < n → w i = w' i) → cntW w n = cntW w' n
  | 0, _ => rfl
  | n + 1, h => by unfold cntW; rw [cntW_congr n (fun i hi => h i (by omega)), h n (by omega)]
def drop1 (w : Nat → Bool) (v : Nat) : Nat → Bool := fun i => w i && i != v
theorem cntW_drop {w : Nat → Bool} {v : Nat} (hw : w v = true) : ∀ n, v < n → cntW (drop1 w v) n + 1 = cntW w n
  | 0, h => absurd h (Nat.not_lt_zero _)
  | n + 1, h => by
    unfold cntW
    by_cases hv : v = n
    · subst hv
      rw [if_pos hw, cntW_congr (w := drop1 w v) (w' := w) v (fun i hi => by unfold drop1; simp; intro; omega)]
      have : drop1 w v v = false := by unfold drop1; simp
      rw [this]
      simp
    · have ih := cntW_drop hw n (by omega)
      have : drop1 w v n = w n := by unfold drop1; simp; intro; omega
      rw [this]
      omega
/-- One of those that wait wins. -/
theorem winner {n : Nat} {S : Nat → Fm} (hS : Fs n S) {w : Nat → Bool} (h : ∃ i, i < n ∧ w i = true) : ∃ v, v < n ∧ w v = true ∧ ∀ i, i < n → w i = true → i ≠ v → cmpF (S v) (S i) = -1 := by
  have key : ∀ m, m ≤ n → (∃ i, i < m ∧ w i = true) → ∃ v, v < m ∧ w v = true ∧ ∀ i, i < m → w i = true → i ≠ v → cmpF (S v) (S i) = -1 := by
    intro m
    induction m with
    | zero => rintro _ ⟨i, hi, _⟩; omega
    | succ m ih =>
      intro hm he
      by_cases hw : ∃ i, i < m ∧ w i = true
      · obtain ⟨v, h1, h2, h3⟩ := ih (by omega) hw
        by_cases hmw : w m = true
        · rcases cmpB_val (abits (S v)) (abits (S m)) with e | e | e
          · refine ⟨v, by omega, h2, fun i hi hwi hne => ?_⟩
            by_cases him : i = m
            · subst him; exact e
            · exact h3 i (by omega) hwi hne
          · exact absurd e (hS.ne v m (by omega) (by omega) (by omega))
          · have e2 : cmpF (S m) (S v) = -1 := by
              have := cmpB_swap (abits (S v)) (abits (S m))
              unfold cmpF
              rw [this, e]
            refine ⟨m, by omega, hmw, fun i hi hwi hne => ?_⟩
            by_cases hiv : i = v
            · subst hiv; exact e2
            · exact cmpB_trans _ _ _ e2 (h3 i (by omega) hwi hiv)
        · refine ⟨v, by omega, h2, fun i hi hwi hne => ?_⟩
          by_cases him : i = m
          · subst him; exact absurd hwi hmw
          · exact h3 i (by omega) hwi hne
      · obtain ⟨i, hi, hwi⟩ := he
        have him : i = m := by
          by_cases hl : i < m
          · exact absurd ⟨i, hl, hwi⟩ hw
          · omega
        subst him
        exact ⟨i, by omega, hwi, fun k hk hwk hne => absurd ⟨k, by omega, hwk⟩ hw⟩
  exact key n (Nat.le_refl _) h
/-- The wire of five, the frames of w waiting. -/
inductive Rc (n : Nat) (S : Nat → Fm) (w : Nat → Bool) (b : Nat) (c : Gc) : Prop
  | pause (k : Nat) (a : Nat → M) : k ≤ 2 → b + (3 - k) ≤ 3 + 160 * (n - cntW w n) → (∀ i, i < 5 → c.ms i = pauM (a i) k ∧ Rest { a i with st := 0, left := 0 }) → Rc n S w b c
  | idle (q : Nat → M) : b ≤ 3 + 160 * (n - cntW w n) → (∀ i, i < 5 → c.ms i = q i ∧ Rest (q i)) → Rc n S w b c
  | run (q : Nat → M) (v : Nat) (D : Nat → Nat) (j : Nat) : v < n → w v = true → 1 ≤ j → j < (S v).ack.length → b ≤ 3 + 160 * (n - cntW w n) + j → (∀ i, i < 5 → Rest (q i)) → (∀ i, i < n → w i = true → i ≠ v → Apart (S v) (S i) (D i) ∧ cmpF (S v) (S i) = -1) →
      (∀ i, i < 5 → c.ms i = if i = v then winM (q i) (S v) j else if i < n ∧ w i = true then losM (q i) (S v) (S i) (D i) j else lisM (q i) (S v) j) → Rc n S w b c
/-- What goes with it. -/
structure W5 (b : Nat) (c : Gc) : Prop where
  n : c.n = 5
  t : c.t = false
  bn : c.bn = b
theorem race_start (n : Nat) (S : Nat → Fm) {w : Nat → Bool} (hw : cntW w n = n) : Rc n S w 0 (Gc.new 5) ∧ W5 0 (Gc.new 5) :=
  ⟨.pause 0 (fun _ => M.new) (by decide) (by omega) (fun i _ => ⟨rfl, rest_idle⟩), ⟨rfl, rfl, rfl⟩⟩
/-- No more than 643 bits. -/
theorem race_bound {n : Nat} {S : Nat → Fm} (hS : Fs n S) {w : Nat → Bool} {b : Nat} {c : Gc} (h : Rc n S w b c) : b < 900 := by
  have h4 := hS.most
  have hc := cntW_le w n
  cases h with
  | pause k a hk hb _ => omega
  | idle q hb _ => omega
  | run q v D j hv _ _ hj hb _ _ _ =>
    have := ack_short (hS.good v hv)
    omega
/-- Whether all are idle and nobody waits. -/
def calm (c : Gc) (i : Nat) : Bool := ((c.ms i).st == 0) && !(c.ms i).waits
theorem race_calm {n : Nat} {S : Nat → Fm} (hS : Fs n S) {w : Nat → Bool} {b : Nat} {c : Gc} (h : Rc n S w b c) : (∃ q : Nat → M, b ≤ 3 + 160 * (n - cntW w n) ∧ (∀ i, i < 5 → c.ms i = q i ∧ Rest (q i)) ∧ ∀ i, i < 5 → calm c i = true) ∨ (∃ i, i < 5 ∧ calm c i = false) := by
  cases h with
  | pause k a hk _ ha =>
    refine .inr ⟨0, by decide, ?_⟩
    unfold calm
    rw [(ha 0 (by decide)).1, pau_six _ (by omega)]
    rfl
  | idle q hb hq =>
    refine .inl ⟨q, hb, hq, fun i hi => ?_⟩
    unfold calm
    rw [(hq i hi).1, (hq i hi).2.st, (hq i hi).2.waits]
    rfl
  | run q v D j hv _ h1 hj _ _ _ hm =>
    have h4 := hS.most
    refine .inr ⟨v, by omega, ?_⟩
    unfold calm
    rw [hm v (by omega), if_pos rfl]
    unfold winM sqM
    rw [if_pos hj, if_neg (by omega)]
    rfl
/-- What one of them tells at bit j. -/
def rE (n : Nat) (S : Nat → Fm) (w : Nat → Bool) (v : Nat) (D : Nat → Nat) (j i : Nat) : List Ev := if i = v then wiE (S v) j else if i < n ∧ w i = true then loE (S v) (S i) (D i) j else hrE (S v) j
theorem rE_mid {n : Nat} {S : Nat → Fm} {w : Nat → Bool} {v : Nat} {D : Nat → Nat} {j i : Nat} (hj : j + 1 < (S v).ack.length) : ∀ x ∈ rE n S w v D j i, x.kind ≠ 1 ∧ x.kind ≠ 4 ∧ x.kind ≠ 5 := by
  have h3 : ∀ x ∈ hrE (S v) j, x.kind ≠ 1 ∧ x.kind ≠ 4 ∧ x.kind ≠ 5 := by
    intro x hx
    unfold hrE at hx
    split at hx
    · obtain rfl := List.mem_singleton.1 hx; exact ⟨by show (6 : Int) ≠ 1; decide, by show (6 : Int) ≠ 4; decide, by show (6 : Int) ≠ 5; decide⟩
    · split at hx
      · obtain rfl := List.mem_singleton.1 hx; exact ⟨by show (2 : Int) ≠ 1; decide, by show (2 : Int) ≠ 4; decide, by show (2 : Int) ≠ 5; decide⟩
      · cases hx
  intro x hx
  unfold rE at hx
  split at hx
  · unfold wiE at hx
    split at hx
    · obtain rfl := List.mem_singleton.1 hx; exact ⟨by show (6 : Int) ≠ 1; decide, by show (6 : Int) ≠ 4; decide, by show (6 : Int) ≠ 5; decide⟩
    · rw [if_neg (by omega)] at hx; cases hx
  · split at hx
    · unfold loE at hx
      split at hx
      · obtain rfl := List.mem_singleton.1 hx; exact ⟨by show (6 : Int) ≠ 1; decide, by show (6 : Int) ≠ 4; decide, by show (6 : Int) ≠ 5; decide⟩
      · split at hx
        · cases hx
        · split at hx
          · obtain rfl := List.mem_singleton.1 hx; exact ⟨by show (3 : Int) ≠ 1; decide, by show (3 : Int) ≠ 4; decide, by show (3 : Int) ≠ 5; decide⟩
          · exact h3 x hx
    · exact h3 x hx
theorem range5 (f : Nat → List Ev) : (List.range 5).flatMap f = f 0 ++ (f 1 ++ (f 2 ++ (f 3 ++ (f 4 ++ [])))) := rfl
theorem rE_last {n : Nat} {S : Nat → Fm} (hS : Fs n S) {w : Nat → Bool} {v : Nat} {D : Nat → Nat} {j : Nat} (hv : v < n) (hj : j + 1 = (S v).ack.length) (hA : ∀ i, i < n → w i = true → i ≠ v → Apart (S v) (S i) (D i)) (i : Nat) : rE n S w v D j i = if i = v then [⟨1, S v, 0⟩] else [] := by
  have hl := ack_long (hS.good v hv)
  have hr := arb_room (hS.good v hv)
  have h3 : hrE (S v) j = [] := by unfold hrE; rw [if_neg (by omega), if_neg (by omega)]
  unfold rE
  by_cases hi : i = v
  · rw [if_pos hi, if_pos hi]
    unfold wiE
    rw [if_neg (by omega), if_pos hj]
  · rw [if_neg hi, if_neg hi]
    split
    · next hw =>
      have A := hA i hw.1 hw.2 hi
      have h1 := A.ltW
      unfold loE
      rw [if_neg (by omega), if_neg (by omega), if_neg (by omega)]
      exact h3
    · exact h3
/-- What all tell at a bit of the run. -/
def rAll (n : Nat) (S : Nat → Fm) (w : Nat → Bool) (v : Nat) (D : Nat → Nat) (j : Nat) : List Ev := (List.range 5).flatMap (rE n S w v D j)
theorem rAll_last {n : Nat} {S : Nat → Fm} (hS : Fs n S) {w : Nat → Bool} {v : Nat} {D : Nat → Nat} {j : Nat} (hv : v < n) (hj : j + 1 = (S v).ack.length) (hA : ∀ i, i < n → w i = true → i ≠ v → Apart (S v) (S i) (D i)) : rAll n S w v D j = [⟨1, S v, 0⟩] := by
  have h4 := hS.most
  unfold rAll
  rw [range5, rE_last hS hv hj hA, rE_last hS hv hj hA, rE_last hS hv hj hA, rE_last hS hv hj hA, rE_last hS hv hj hA]
  match v, hv with
  | 0, _ => rfl
  | 1, _ => rfl
  | 2, _ => rfl
  | 3, _ => rfl
  | v + 4, h => omega
theorem rAll_mid {n : Nat} {S : Nat → Fm} {w : Nat → Bool} {v : Nat} {D : Nat → Nat} {j : Nat} (hj : j + 1 < (S v).ack.length) : ∀ x ∈ rAll n S w v D j, x.kind ≠ 1 ∧ x.kind ≠ 4 ∧ x.kind ≠ 5 := by
  intro x hx
  obtain ⟨i, _, hi⟩ := List.mem_flatMap.1 hx
  exact rE_mid hj x hi
theorem rAll_len {n : Nat} {S : Nat → Fm} {w : Nat → Bool} {v : Nat} {D : Nat → Nat} {j : Nat} : (rAll n S w v D j).length ≤ 5 := by
  have h : ∀ i, (rE n S w v D j i).length ≤ 1 := by
    intro i
    have h3 : (hrE (S v) j).length ≤ 1 := by
      unfold hrE
      split; · simp
      split <;> simp
    unfold rE
    split
    · unfold wiE
      split; · simp
      split <;> simp
    · split
      · unfold loE
        split; · simp
        split; · simp
        split; · simp
        exact h3
      · exact h3
  unfold rAll
  rw [range5]
  simp only [List.length_append, List.length_nil]
  have := h 0; have := h 1; have := h 2; have := h 3; have := h 4
  omega
/-- The wire within a run. -/
theorem run_wire {n : Nat} {S : Nat → Fm} (hS : Fs n S) {w : Nat → Bool} {v : Nat} {D : Nat → Nat} {j : Nat} {q ms : Nat → M} (hv : v < n) (hj : j < (S v).ack.length) (hq : ∀ i, i < 5 → Rest (q i)) (hA : ∀ i, i < n → w i = true → i ≠ v → Apart (S v) (S i) (D i))
    (hm : ∀ i, i < 5 → ms i = if i = v then winM (q i) (S v) j else if i < n ∧ w i = true then losM (q i) (S v) (S i) (D i) j else lisM (q i) (S v) j) : allD ms 5 = bitAt (S v).ack j := by
  have h4 := hS.most
  have hg := hS.good v hv
  have hr := arb_room hg
  refine allD_eq (fun i hi hc => ?_) (fun hc => ?_)
  · have h9 : ¬ j + 9 = (S v).ack.length := fun e => by rw [ack_at9 e] at hc; cases hc
    rw [hm i hi]
    by_cases hiv : i = v
    · rw [if_pos hiv, win_drive hg hj, if_neg h9, hc]
    · rw [if_neg hiv]
      split
      · next hw =>
        have A := hA i hw.1 hw.2 hiv
        rw [los_drive hg (hS.good i hw.1) A (hq i hi) hj]
        by_cases hl : j ≤ D i
        · rw [if_pos hl]
          by_cases he : j = D i
          · rw [he]; exact A.l
          · rw [← A.eq j (by omega)]; exact hc
        · rw [if_neg hl, decide_eq_false h9]; rfl
      · rw [lis_drive hg (hq i hi) hj, decide_eq_false h9]; rfl
  · by_cases h9 : j + 9 = (S v).ack.length
    · obtain ⟨i, hi, hne⟩ : ∃ i, i < 5 ∧ i ≠ v ∧ n ≤ i := ⟨4, by decide, by omega, by omega⟩
      refine ⟨i, hi, ?_⟩
      rw [hm i hi, if_neg hne.1, if_neg (by omega), lis_drive hg (hq i hi) hj, decide_eq_true h9]
      rfl
    · refine ⟨v, by omega, ?_⟩
      rw [hm v (by omega), if_pos rfl, win_drive hg hj, if_neg h9]
      exact hc
theorem run_sample {n : Nat} {S : Nat → Fm} (hS : Fs n S) {w : Nat → Bool} {v : Nat} {D : Nat → Nat} {j : Nat} {q : Nat → M} (hv : v < n) (hj : j < (S v).ack.length) (hq : ∀ i, i < 5 → Rest (q i)) (hA : ∀ i, i < n → w i = true → i ≠ v → Apart (S v) (S i) (D i)) (i : Nat) (hi : i < 5) :
    (if i = v then winM (q i) (S v) j else if i < n ∧ w i = true then losM (q i) (S v) (S i) (D i) j else lisM (q i) (S v) j).sample (bitAt (S v).ack j) =
    (if i = v then winM (q i) (S v) (j + 1) else if i < n ∧ w i = true then losM (q i) (S v) (S i) (D i) (j + 1) else lisM (q i) (S v) (j + 1), rE n S w v D j i) := by
  have hg := hS.good v hv
  unfold rE
  by_cases hiv : i = v
  · rw [if_pos hiv, if_pos hiv, if_pos hiv]; exact win_step hg hj
  · rw [if_neg hiv, if_neg hiv, if_neg hiv]
    by_cases hw : i < n ∧ w i = true
    · rw [if_pos hw, if_pos hw, if_pos hw]
      exact los_step hg (hS.good i hw.1) (hA i hw.1 hw.2 hiv) (hq i hi) hj
    · rw [if_neg hw, if_neg hw, if_neg hw]
      exact lis_step hg (hq i hi) hj
/-- A bit of a run. -/
theorem run_step {n : Nat} {S : Nat → Fm} (hS : Fs n S) {w : Nat → Bool} {b : Nat} {c : Gc} (h5 : W5 b c) {v : Nat} {D : Nat → Nat} {j : Nat} {q : Nat → M} (hv : v < n) (hw : w v = true) (hj : j < (S v).ack.length) (hb : b ≤ 3 + 160 * (n - cntW w n) + j) (hq : ∀ i, i < 5 → Rest (q i))
    (hA : ∀ i, i < n → w i = true → i ≠ v → Apart (S v) (S i) (D i) ∧ cmpF (S v) (S i) = -1)
    (hm : ∀ i, i < 5 → c.ms i = if i = v then winM (q i) (S v) j else if i < n ∧ w i = true then losM (q i) (S v) (S i) (D i) j else lisM (q i) (S v) j) :
    W5 (b + 1) (c.step false) ∧ c.evs false = rAll n S w v D j ∧ (if j + 1 < (S v).ack.length then Rc n S w (b + 1) (c.step false) else Rc n S (drop1 w v) (b + 1) (c.step false)) := by
  have hA' : ∀ i, i < n → w i = true → i ≠ v → Apart (S v) (S i) (D i) := fun i h1 h2 h3 => (hA i h1 h2 h3).1
  have hwr := run_wire hS hv hj hq hA' hm
  have hbit : (allD c.ms c.n != (c.t || false)) = bitAt (S v).ack j := by
    rw [h5.n, hwr, h5.t]
    cases bitAt (S v).ack j <;> rfl
  obtain ⟨q1, _, q3, _⟩ := step_of (c := c) (flip := false) hbit (ms' := fun i => if i = v then winM (q i) (S v) (j + 1) else if i < n ∧ w i = true then losM (q i) (S v) (S i) (D i) (j + 1) else lisM (q i) (S v) (j + 1)) (E := rE n S w v D j) (fun i hi => by
    rw [h5.n] at hi
    rw [hm i hi]
    exact run_sample hS hv hj hq hA' i hi)
  rw [h5.n] at q1 q3
  refine ⟨⟨h5.n, rfl, by show c.bn + 1 = _; rw [h5.bn]⟩, q3, ?_⟩
  by_cases hl : j + 1 < (S v).ack.length
  · rw [if_pos hl]
    exact .run q v D (j + 1) hv hw (by omega) hl (by omega) hq hA q1
  · rw [if_neg hl]
    have hg := hS.good v hv
    have he : j + 1 = (S v).ack.length := by omega
    have hc := cntW_drop hw n hv
    have hle := cntW_le w n
    have hs := ack_short hg
    have hr := arb_room hg
    refine .pause 0 (fun i => if i = v then sqEnd (q i) (S v) else hrM (gotD (q i)) (S v) (S v).ack.length) (by decide) (by omega) (fun i hi => ?_)
    rw [q1 i hi]
    by_cases hiv : i = v
    · rw [if_pos hiv, if_pos hiv, he, win_pau _ hg]
      exact ⟨rfl, win_rest (hq i hi) (S v)⟩
    · rw [if_neg hiv, if_neg hiv]
      have hlis : (if i < n ∧ w i = true then losM (q i) (S v) (S i) (D i) (j + 1) else lisM (q i) (S v) (j + 1)) = lisM (q i) (S v) (S v).ack.length := by
        split
        · next hwi =>
          have A := hA' i hwi.1 hwi.2 hiv
          have h1 := A.ltW
          unfold losM
          rw [if_neg (by omega), he]
        · rw [he]
      rw [hlis, lis_pau _ hg]
      exact ⟨rfl, lis_rest (hq i hi) (S v)⟩
/-- A bit of the pause. -/
theorem pause_bit {n : Nat} {S : Nat → Fm} {w : Nat → Bool} {b : Nat} {c : Gc} (h5 : W5 b c) {k : Nat} {a : Nat → M} (hk : k ≤ 2) (hb : b + (3 - k) ≤ 3 + 160 * (n - cntW w n)) (ha : ∀ i, i < 5 → c.ms i = pauM (a i) k ∧ Rest { a i with st := 0, left := 0 }) :
    W5 (b + 1) (c.step false) ∧ c.evs false = [] ∧ Rc n S w (b + 1) (c.step false) := by
  have hd : allD c.ms c.n = true := allD_eq (fun i hi _ => by rw [h5.n] at hi; rw [(ha i hi).1]; exact pau_drive _ _ (by omega)) (fun e => by cases e)
  have hbit : (allD c.ms c.n != (c.t || false)) = true := by rw [hd, h5.t]; rfl
  obtain ⟨q1, _, q3, _⟩ := step_of (c := c) (flip := false) hbit (ms' := fun i => pauM (a i) (k + 1)) (E := fun _ => []) (fun i hi => by
    rw [h5.n] at hi
    rw [(ha i hi).1]
    exact pau_step _ _ (by omega))
  rw [h5.n] at q1 q3
  refine ⟨⟨h5.n, rfl, by show c.bn + 1 = _; rw [h5.bn]⟩, q3, ?_⟩
  by_cases h2 : k < 2
  · exact .pause (k + 1) a (by omega) (by omega) (fun i hi => ⟨q1 i hi, (ha i hi).2⟩)
  · refine .idle (fun i => pauM (a i) (k + 1)) (by omega) (fun i hi => ⟨q1 i hi, ?_⟩)
    rw [pau_end _ (by omega)]
    exact (ha i hi).2
/-- Those that wait ask, number by number. -/
structure Ak (S : Nat → Fm) (w : Nat → Bool) (q : Nat → M) (i b : Nat) (c : Gc) : Prop where
  h5 : W5 b c
  ms : ∀ k, k < 5 → c.ms k = if k < i ∧ w k = true then sqM (q k) (S k) 0 else q k
theorem Ak.ask {n : Nat} {S : Nat → Fm} (hS : Fs n S) {w : Nat → Bool} {q : Nat → M} {i b : Nat} {c : Gc} (h : Ak S w q i b c) (hi : i < n) (hw : w i = true) (hq : Rest (q i)) : ((c.ms i).ask (S i)).2 = 0 ∧ Ak S w q (i + 1) b (c.ask i (S i)) := by
  have h4 := hS.most
  have e : c.ms i = q i := by rw [h.ms i (by omega), if_neg (by omega)]
  rw [e, rest_ask hq (hS.good i hi)]
  refine ⟨rfl, ⟨h.h5.n, h.h5.t, h.h5.bn⟩, fun k hk => ?_⟩
  show WireW.upd c.ms i ((c.ms i).ask (S i)).1 k = _
  rw [e, rest_ask hq (hS.good i hi)]
  by_cases hki : k = i
  · subst hki; rw [upd_at, if_pos ⟨by omega, hw⟩]
  · rw [upd_ne _ _ hki, h.ms k hk]
    by_cases hc : k < i ∧ w k = true
    · rw [if_pos hc, if_pos ⟨by omega, hc.2⟩]
    · rw [if_neg hc, if_neg (fun q => hc ⟨by omega, q.2⟩)]
theorem Ak.skip {S : Nat → Fm} {w : Nat → Bool} {q : Nat → M} {i b : Nat} {c : Gc} (h : Ak S w q i b c) (hw : w i = false) : Ak S w q (i + 1) b c := by
  refine ⟨h.h5, fun k hk => ?_⟩
  rw [h.ms k hk]
  by_cases hki : k = i
  · subst hki; rw [if_neg (fun q => by omega), if_neg (fun q => by rw [hw] at q; cases q.2)]
  · by_cases hc : k < i ∧ w k = true
    · rw [if_pos hc, if_pos ⟨by omega, hc.2⟩]
    · rw [if_neg hc, if_neg (fun q => hc ⟨by omega, q.2⟩)]
/-- What a bit time does. -/
def Out (n : Nat) (S : Nat → Fm) (w : Nat → Bool) (b : Nat) (c : Gc) : Prop :=
  W5 (b + 1) (c.step false) ∧ (((∀ x ∈ c.evs false, x.kind ≠ 1 ∧ x.kind ≠ 4 ∧ x.kind ≠ 5) ∧ (c.evs false).length ≤ 5 ∧ Rc n S w (b + 1) (c.step false)) ∨
    (∃ v, v < n ∧ w v = true ∧ c.evs false = [⟨1, S v, 0⟩] ∧ Rc n S (drop1 w v) (b + 1) (c.step false) ∧ ∀ i, i < n → w i = true → i ≠ v → cmpF (S v) (S i) = -1))
theorem out_run {n : Nat} {S : Nat → Fm} (hS : Fs n S) {w : Nat → Bool} {b : Nat} {c : Gc} (h5 : W5 b c) {v : Nat} {D : Nat → Nat} {j : Nat} {q : Nat → M} (hv : v < n) (hw : w v = true) (hj : j < (S v).ack.length) (hb : b ≤ 3 + 160 * (n - cntW w n) + j) (hq : ∀ i, i < 5 → Rest (q i))
    (hA : ∀ i, i < n → w i = true → i ≠ v → Apart (S v) (S i) (D i) ∧ cmpF (S v) (S i) = -1)
    (hm : ∀ i, i < 5 → c.ms i = if i = v then winM (q i) (S v) j else if i < n ∧ w i = true then losM (q i) (S v) (S i) (D i) j else lisM (q i) (S v) j) : Out n S w b c := by
  obtain ⟨o1, o2, o3⟩ := run_step hS h5 hv hw hj hb hq hA hm
  refine ⟨o1, ?_⟩
  by_cases hl : j + 1 < (S v).ack.length
  · rw [if_pos hl] at o3
    exact .inl ⟨by rw [o2]; exact rAll_mid hl, by rw [o2]; exact rAll_len, o3⟩
  · rw [if_neg hl] at o3
    exact .inr ⟨v, hv, hw, by rw [o2]; exact rAll_last hS hv (by omega) (fun i h1 h2 h3 => (hA i h1 h2 h3).1), o3, fun i h1 h2 h3 => (hA i h1 h2 h3).2⟩
theorem out_busy {n : Nat} {S : Nat → Fm} (hS : Fs n S) {w : Nat → Bool} {b : Nat} {c : Gc} (h5 : W5 b c) (h : Rc n S w b c) (hc : ∃ i, i < 5 ∧ calm c i = false) : Out n S w b c := by
  cases h with
  | pause k a hk hb ha =>
    obtain ⟨o1, o2, o3⟩ := pause_bit h5 hk hb ha
    exact ⟨o1, .inl ⟨by rw [o2]; exact fun x hx => absurd hx List.not_mem_nil, by rw [o2]; decide, o3⟩⟩
  | idle q hb hq =>
    obtain ⟨i, hi, e⟩ := hc
    unfold calm at e
    rw [(hq i hi).1, (hq i hi).2.st, (hq i hi).2.waits] at e
    cases e
  | run q v D j hv hw h1 hj hb hq hA hm => exact out_run hS h5 hv hw hj hb hq hA hm
theorem out_asked {n : Nat} {S : Nat → Fm} (hS : Fs n S) {w : Nat → Bool} {b : Nat} {c : Gc} {q : Nat → M} (h : Ak S w q n b c) (hb : b ≤ 3 + 160 * (n - cntW w n)) (hq : ∀ i, i < 5 → Rest (q i)) (hl : 0 < cntW w n) : Out n S w b c := by
  obtain ⟨v, hv, hw, hmin⟩ := winner hS (cntW_pos hl)
  have hal := ack_long (hS.good v hv)
  have hex : ∀ i, ∃ D, i < n → w i = true → i ≠ v → Apart (S v) (S i) D := fun i => by
    by_cases hc : i < n ∧ w i = true ∧ i ≠ v
    · obtain ⟨D, hD⟩ := cmp_apart (hS.good v hv) (hS.good i hc.1) (hmin i hc.1 hc.2.1 hc.2.2)
      exact ⟨D, fun _ _ _ => hD⟩
    · exact ⟨0, fun h1 h2 h3 => absurd ⟨h1, h2, h3⟩ hc⟩
  refine out_run hS h.h5 (D := fun i => Classical.choose (hex i)) (q := q) (j := 0) hv hw (by omega) (by omega) hq (fun i h1 h2 h3 => ⟨Classical.choose_spec (hex i) h1 h2 h3, hmin i h1 h2 h3⟩) (fun i hi => ?_)
  rw [h.ms i hi]
  by_cases hiv : i = v
  · subst hiv
    rw [if_pos ⟨hv, hw⟩, if_pos rfl]
    unfold winM
    rw [if_pos (by omega)]
  · rw [if_neg hiv]
    by_cases hc : i < n ∧ w i = true
    · rw [if_pos hc, if_pos hc]
      unfold losM
      rw [if_pos (Nat.zero_le _)]
    · rw [if_neg hc, if_neg hc]
      unfold lisM
      rw [if_pos rfl]
/-- The frames that went, in order. -/
structure Gone (n : Nat) (S : Nat → Fm) (w : Nat → Bool) (O : List Fm) : Prop where
  len : O.length + cntW w n = n
  good : ∀ o ∈ O, o.Good
  sort : ∀ (k : Nat) (a b : Fm), O[k]? = some a → O[k + 1]? = some b → cmpF a b = -1
  rest : ∀ (o : Fm), O.getLast? = some o → ∀ i, i < n → w i = true → cmpF o (S i) = -1
theorem Gone.next {n : Nat} {S : Nat → Fm} (hS : Fs n S) {w : Nat → Bool} {O : List Fm} (h : Gone n S w O) {v : Nat} (hv : v < n) (hw : w v = true) (hmin : ∀ i, i < n → w i = true → i ≠ v → cmpF (S v) (S i) = -1) : Gone n S (drop1 w v) (O ++ [S v]) := by
  have hc := cntW_drop hw n hv
  refine ⟨by rw [List.length_append, List.length_singleton]; have := h.len; omega, fun o ho => ?_, fun k a b ha hb => ?_, fun o ho i hi hwi => ?_⟩
  · rcases List.mem_append.1 ho with ho | ho
    · exact h.good o ho
    · obtain rfl := List.mem_singleton.1 ho; exact hS.good v hv
  · by_cases hk : k + 1 < O.length
    · rw [List.getElem?_append_left (by omega)] at ha
      rw [List.getElem?_append_left hk] at hb
      exact h.sort k a b ha hb
    · by_cases hk2 : k + 1 = O.length
      · rw [List.getElem?_append_left (by omega)] at ha
        rw [List.getElem?_append_right (by omega), hk2, Nat.sub_self] at hb
        simp only [List.getElem?_cons_zero, Option.some.injEq] at hb
        subst hb
        refine h.rest a ?_ v hv hw
        rw [List.getLast?_eq_getElem?, show O.length - 1 = k by omega]
        exact ha
      · rw [List.getElem?_append_right (by omega)] at hb
        have : [S v][k + 1 - O.length]? = none := by rw [List.getElem?_eq_none]; simp; omega
        rw [this] at hb
        cases hb
  · rw [List.getLast?_append] at ho
    simp at ho
    subst ho
    unfold drop1 at hwi
    simp at hwi
    exact hmin i hi hwi.1 hwi.2
theorem gone_start (n : Nat) (S : Nat → Fm) {w : Nat → Bool} (hw : cntW w n = n) : Gone n S w [] :=
  ⟨by rw [hw]; simp, fun o ho => absurd ho List.not_mem_nil, fun k a b ha => absurd ha (by simp), fun o ho => absurd ho (by simp)⟩
theorem cmp_self (x : List Bool) : cmpB x x = 0 := by
  induction x with
  | nil => rfl
  | cons c x ih => unfold cmpB; rw [if_pos rfl]; exact ih
theorem same_num {n : Nat} {S : Nat → Fm} (hS : Fs n S) {i v : Nat} (hi : i < n) (hv : v < n) (e : S i = S v) : i = v := by
  by_cases h : i = v
  · exact h
  · have := hS.ne i v hi hv h
    rw [e] at this
    exact absurd (cmp_self _) this
end Go.Proofs.Ytpkpnaedacefaaa.WireP
