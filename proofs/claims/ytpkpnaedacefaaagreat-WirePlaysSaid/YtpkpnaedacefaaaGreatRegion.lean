/- A law on regions whose order of evaluation is open: it is enough to walk the operations in the text's order, if each of them yields one and the same value
   whatever else has come up before it, and keeps what is held of the world. -/
import Derived.OrdersHeld
import Derived.Deep.RegionHeld
import Derived.WalkKit
namespace Go.Proofs.YtpkpnaedacefaaaGreat.Lib
set_option linter.unusedVariables false
set_option linter.unusedSimpArgs false
open Go

/-- What operation o waits for. -/
def needsOf (o : Oper) : List Nat := (o.after.toList.filter (fun e => Region.binds .any e)).map (fun e => e.on)

/-- Each slot that an operation looks at is filled by one that it waits for, if by any; no two fill one slot; it waits for earlier ones alone; no select. -/
def textOk (ops : Array Oper) : Bool :=
  (List.range ops.size).all fun i => match ops[i]? with
    | none => true
    | some o =>
      (match o.op with | .select _ _ => false | _ => true) && (needsOf o).all (fun j => decide (j < i)) &&
      (List.range ops.size).all fun j => match ops[j]? with
        | none => true
        | some p => match p.dst with
          | none => true
          | some t => (!(o.looksAt ops).contains t || (needsOf o).contains j) && (j == i || o.dst != some t)

/-- Number i has come up, too. -/
def up (b : Nat → Bool) (i : Nat) : Nat → Bool := fun j => if j = i then true else b j

section
variable {P : Program} {ops : Array Oper} {Q : Exit → Act → World → Prop} {S : (Nat → Bool) → (Nat → Nat) → World → Prop}

/-- The number that belongs to operation i is n. -/
def upd (g : Nat → Nat) (i n : Nat) : Nat → Nat := fun j => if j = i then n else g j
/-- What operation i waits for, through others too. -/
inductive Anc (ops : Array Oper) : Nat → Nat → Prop
  | one {i j : Nat} {o : Oper} : ops[i]? = some o → j ∈ needsOf o → Anc ops i j
  | more {i j k : Nat} {o : Oper} : ops[i]? = some o → j ∈ needsOf o → Anc ops j k → Anc ops i k
/-- The value of operation i hangs on its own number and on those of what it waits for, alone. -/
def Hangs (ops : Array Oper) (i : Nat) (v : (Nat → Nat) → Value) : Prop := ∀ g g' : Nat → Nat, (∀ k, (k = i ∨ Anc ops i k) → g k = g' k) → v g = v g'
theorem hangs_const {i : Nat} {v : Value} : Hangs ops i (fun _ => v) := fun _ _ _ => rfl

/-- One operation: out of what is held, it not having come up, all that it waits for having come up, and nothing that waits for it. -/
def Step (P : Program) (ops : Array Oper) (S : (Nat → Bool) → (Nat → Nat) → World → Prop) (i : Nat) (o : Oper) (a : (Nat → Nat) → Act) (v : (Nat → Nat) → Value) : Prop :=
  ∀ b g w, S b g w → b i = false → (∀ j ∈ needsOf o, b j = true) → (∀ j p, ops[j]? = some p → i ∈ needsOf p → b j = false) →
    (Region.wanted o (yielded ops (a g).tmps) = true ∧ Oper.wp P o (a g) w (fun a' w' => ∃ n, a' = (a g).put o.dst (v (upd g i n)) ∧ S (up b i) (upd g i n) w') (fun _ _ _ => False)) ∨
    (Region.wanted o (yielded ops (a g).tmps) = false ∧ v g = undef ∧ S (up b i) g w)

/-- The operations in the text's order, from number i on. -/
def TextRun (P : Program) (ops : Array Oper) (S : (Nat → Bool) → (Nat → Nat) → World → Prop) (Fin : ((Nat → Nat) → Act) → Prop) : Nat → List Oper → ((Nat → Nat) → Act) → Prop
  | _, [], a => Fin a
  | i, o :: rest, a => ∃ v, Hangs ops i v ∧ Step P ops S i o a v ∧ TextRun P ops S Fin (i + 1) rest (fun g => (a g).put o.dst (v g))

/-- The frame a, when those by b have come up: vs are the values. -/
structure Filled (ops : Array Oper) (a0 : Act) (vs : Nat → Value) (b : Nat → Bool) (a : Act) : Prop where
  size : a.tmps.size = a0.tmps.size
  defers : a.defers = a0.defers
  on : ∀ (j : Nat) (p : Oper) (t : Tmp), ops[j]? = some p → p.dst = some t → b j = true → t < a0.tmps.size → a.tmps[t]? = some (vs j)
  off : ∀ (t : Tmp), (∀ (j : Nat) (p : Oper), ops[j]? = some p → p.dst = some t → b j = false) → a.tmps[t]? = a0.tmps[t]?

theorem textOk_at (h : textOk ops = true) {i : Nat} {o : Oper} (hi : ops[i]? = some o) :
    (∀ cs b, o.op ≠ .select cs b) ∧ (∀ j ∈ needsOf o, j < i) ∧
    (∀ j p t, ops[j]? = some p → p.dst = some t → t ∈ o.looksAt ops → j ∈ needsOf o) ∧
    (∀ j p t, ops[j]? = some p → p.dst = some t → o.dst = some t → j = i) := by
  unfold textOk at h
  have hlt := (Array.getElem?_eq_some_iff.1 hi).1
  have h1 := List.all_eq_true.1 h i (List.mem_range.2 hlt)
  rw [hi] at h1
  simp only [Bool.and_eq_true] at h1
  obtain ⟨⟨hs, hn⟩, hr⟩ := h1
  refine ⟨?_, ?_, ?_, ?_⟩
  · intro cs b he
    rw [he] at hs
    simp at hs
  · intro j hj
    simpa using List.all_eq_true.1 hn j hj
  · intro j p t hj hd ht
    have h2 := List.all_eq_true.1 hr j (List.mem_range.2 (Array.getElem?_eq_some_iff.1 hj).1)
    rw [hj] at h2
    simp only [hd, Bool.and_eq_true, Bool.or_eq_true, Bool.not_eq_true'] at h2
    rcases h2.1 with h3 | h3
    · have : (o.looksAt ops).contains t = true := List.contains_iff_mem.2 ht
      rw [this] at h3; cases h3
    · exact List.contains_iff_mem.1 h3
  · intro j p t hj hd ho
    have h2 := List.all_eq_true.1 hr j (List.mem_range.2 (Array.getElem?_eq_some_iff.1 hj).1)
    rw [hj] at h2
    simp only [hd, Bool.and_eq_true, Bool.or_eq_true] at h2
    rcases h2.2 with h3 | h3
    · simpa using h3
    · rw [ho] at h3; simp at h3

theorem Filled.put (hok : textOk ops = true) {a0 a : Act} {vs : Nat → Value} {b : Nat → Bool} (h : Filled ops a0 vs b a) {i : Nat} {o : Oper} (hi : ops[i]? = some o) (hb : b i = false) :
    Filled ops a0 vs (up b i) (a.put o.dst (vs i)) := by
  obtain ⟨_, _, _, huniq⟩ := textOk_at hok hi
  cases hd : o.dst with
  | none =>
    refine ⟨h.size, h.defers, ?_, ?_⟩
    · intro j p t hj hp hbj ht
      by_cases e : j = i
      · subst e; rw [hi] at hj; cases hj; rw [hd] at hp; cases hp
      · exact h.on j p t hj hp (by simpa [up, e] using hbj) ht
    · intro t hall
      refine h.off t (fun j p hj hp => ?_)
      have := hall j p hj hp
      by_cases e : j = i
      · subst e; exact hb
      · simpa [up, e] using this
  | some d =>
    refine ⟨by simp [Act.put, h.size], h.defers, ?_, ?_⟩
    · intro j p t hj hp hbj ht
      by_cases e : j = i
      · subst e
        rw [hi] at hj; cases hj
        rw [hd] at hp; cases hp
        simp [Act.put, h.size, ht]
      · have hne : d ≠ t := fun e2 => e (huniq j p t hj hp (by rw [hd, e2]))
        simp only [Act.put]
        rw [Array.getElem?_setIfInBounds_ne hne]
        exact h.on j p t hj hp (by simpa [up, e] using hbj) ht
    · intro t hall
      have hne : d ≠ t := by
        intro e2
        have := hall i o hi (by rw [hd, e2])
        simp [up] at this
      simp only [Act.put]
      rw [Array.getElem?_setIfInBounds_ne hne]
      refine h.off t (fun j p hj hp => ?_)
      have := hall j p hj hp
      by_cases e : j = i
      · subst e; exact hb
      · simpa [up, e] using this

/-- Two frames that are filled alike where it matters look alike to an operation. -/
theorem Filled.slot {a0 a a' : Act} {vs : Nat → Value} {b b' : Nat → Bool} (h : Filled ops a0 vs b a) (h' : Filled ops a0 vs b' a') (t : Tmp)
    (ht : ∀ j p, ops[j]? = some p → p.dst = some t → b j = true ∧ b' j = true) : a.tmps[t]? = a'.tmps[t]? := by
  by_cases hx : ∃ (j : Nat) (p : Oper), ops[j]? = some p ∧ p.dst = some t
  · obtain ⟨j, p, hj, hp⟩ := hx
    obtain ⟨h1, h2⟩ := ht j p hj hp
    by_cases hl : t < a0.tmps.size
    · rw [h.on j p t hj hp h1 hl, h'.on j p t hj hp h2 hl]
    · rw [Array.getElem?_eq_none (by rw [h.size]; exact Nat.le_of_not_lt hl), Array.getElem?_eq_none (by rw [h'.size]; exact Nat.le_of_not_lt hl)]
  · rw [h.off t (fun j p hj hp => absurd ⟨j, p, hj, hp⟩ hx), h'.off t (fun j p hj hp => absurd ⟨j, p, hj, hp⟩ hx)]

theorem exec_same {a a' : Act} {o : Oper} (hs : ∀ cs b, o.op ≠ .select cs b) (h : ∀ t, t ∈ o.looksAt ops → a.tmps[t]? = a'.tmps[t]?) : execOp a.eval o = execOp a'.eval o := by
  refine execOp_congr o hs (fun x hx => ?_)
  cases x with
  | tmp t =>
    have : t ∈ o.looksAt ops := List.mem_append_left _ (List.mem_filterMap.2 ⟨.tmp t, by simpa using hx, rfl⟩)
    simp only [Act.eval, Array.getD_eq_getD_getElem?, h t this]
  | _ => rfl

theorem wanted_same {a a' : Act} {o : Oper} (h : ∀ t, t ∈ o.looksAt ops → a.tmps[t]? = a'.tmps[t]?) : Region.wanted o (yielded ops a.tmps) = Region.wanted o (yielded ops a'.tmps) := by
  unfold Region.wanted
  cases hg : o.guard with
  | none => rfl
  | some gw =>
    obtain ⟨g, want⟩ := gw
    have : yielded ops a.tmps g = yielded ops a'.tmps g := by
      unfold yielded
      cases ht : (ops[g]?).bind (·.dst) with
      | none => rfl
      | some t =>
        have hm : t ∈ o.looksAt ops := by simp [Oper.looksAt, hg, ht]
        simp only [Option.bind_some, h t hm]
    simp only [this]

/-- The same step from a frame that looks alike to the operation. -/
theorem wp_same {a a' : Act} {o : Oper} {v : Nat → Value} {w : World} {R : Nat → World → Prop} {K : Act → World → Prop} (he : execOp a.eval o = execOp a'.eval o) (hsz : a.tmps.size = a'.tmps.size)
    (hK : ∀ n w', R n w' → K (a'.put o.dst (v n)) w') (h : Oper.wp P o a w (fun x w' => ∃ n, x = a.put o.dst (v n) ∧ R n w') (fun _ _ _ => False)) : Oper.wp P o a' w K Q := by
  have key : ∀ u v : Value, a.put o.dst u = a.put o.dst v → a'.put o.dst u = a'.put o.dst v := by
    intro u v hu
    cases hd : o.dst with
    | none => rfl
    | some d =>
      rw [hd] at hu
      by_cases hl : d < a.tmps.size
      · have h1 : (a.put (some d) u).tmps[d]? = (a.put (some d) v).tmps[d]? := by rw [hu]
        simp [Act.put, hl] at h1
        rw [h1]
      · simp only [Act.put]
        have e : ∀ x : Value, a'.tmps.setIfInBounds d x = a'.tmps := by
          intro x
          exact Array.setIfInBounds_eq_of_size_le (by rw [← hsz]; exact Nat.le_of_not_lt hl)
        rw [e u, e v]
  unfold Oper.wp at *
  rw [← he]
  generalize (execOp a.eval o).run P w = r at *
  cases r with
  | ok n w' =>
    cases n with
    | value u => simp only [Oper.upon] at h ⊢; obtain ⟨n, h1, h2⟩ := h; rw [key u _ h1]; exact hK n _ h2
    | skip => simp only [Oper.upon] at h ⊢; obtain ⟨n, h1, h2⟩ := h; rw [key _ _ h1]; exact hK n _ h2
    | defer d =>
      simp only [Oper.upon] at h
      obtain ⟨n, h1, _⟩ := h
      have h2 := congrArg Act.defers h1
      cases hd : o.dst <;> simp [Act.put, hd] at h2
    | enter f args =>
      simp only [Oper.upon] at h ⊢
      refine Calls.mono h (fun e w'' he => ?_)
      cases e with
      | returned u => simp only at he ⊢; obtain ⟨n, h1, h2⟩ := he; rw [key u _ h1]; exact hK n _ h2
      | panicked c => exact absurd he id
      | outgrown =>
        simp only at he ⊢
        obtain ⟨_, _, hf⟩ := he; exact absurd hf id
    | row row args => simp only [Oper.upon] at h ⊢; exact Rows.mono h (fun u w'' he => by obtain ⟨n, h1, h2⟩ := he; rw [key u _ h1]; exact hK n _ h2)
    | _ => simp only [Oper.upon] at h
  | halt x w' => cases x <;> simp only [Oper.upon] at h

theorem textRun_vals (Fin : ((Nat → Nat) → Act) → Prop) : ∀ (l : List Oper) (i : Nat) (a : (Nat → Nat) → Act), TextRun P ops S Fin i l a →
    ∃ vs : Nat → (Nat → Nat) → Value, ∃ as : Nat → (Nat → Nat) → Act, as i = a ∧ Fin (as (i + l.length)) ∧ ∀ k o, l[k]? = some o → (Hangs ops (i + k) (vs (i + k)) ∧ Step P ops S (i + k) o (as (i + k)) (vs (i + k))) ∧ as (i + k + 1) = fun g => (as (i + k) g).put o.dst (vs (i + k) g)
  | [], i, a, h => ⟨fun _ _ => undef, fun _ => a, rfl, h, fun k o hk => by simp at hk⟩
  | o :: rest, i, a, ⟨v, hh, hs, hr⟩ => by
    obtain ⟨vs, as, h0, h1, h2⟩ := textRun_vals Fin rest (i + 1) _ hr
    refine ⟨fun j => if j = i then v else vs j, fun j => if j = i then a else as j, by simp, ?_, ?_⟩
    · have e : i + (o :: rest).length = i + 1 + rest.length := by simp; omega
      rw [e]
      simp only
      rw [if_neg (by omega)]
      exact h1
    · intro k p hk
      cases k with
      | zero =>
        simp only [List.getElem?_cons_zero, Option.some.injEq] at hk
        subst hk
        simp only [Nat.add_zero, if_true]
        refine ⟨⟨hh, hs⟩, ?_⟩
        rw [if_neg (by omega), h0]
      | succ k =>
        simp only [List.getElem?_cons_succ] at hk
        have := h2 k p hk
        have e : i + (k + 1) = i + 1 + k := by omega
        rw [e]
        simp only
        rw [if_neg (by omega), if_neg (by omega), if_neg (by omega)]
        exact this

theorem list_ready {b : Nat → Bool} {l : Array Bool} (hl : ∀ j, j < ops.size → l[j]? = some (b j)) {i : Nat} (hi : i ∈ Region.ready .any ops l) :
    ∃ o, ops[i]? = some o ∧ b i = false ∧ ∀ j ∈ needsOf o, j < ops.size → b j = true := by
  obtain ⟨h0, o, ho, hall⟩ := mem_ready.1 hi
  have hlt := (Array.getElem?_eq_some_iff.1 ho).1
  refine ⟨o, ho, ?_, ?_⟩
  · have := hl i hlt
    simpa [Array.getD_eq_getD_getElem?, this] using h0
  · intro j hj hjl
    obtain ⟨e, he, rfl⟩ := List.mem_map.1 hj
    rw [List.mem_filter] at he
    have h1 := hall e (by simpa using he.1) he.2
    simpa [Array.getD_eq_getD_getElem?, hl e.on hjl] using h1

theorem region_any (hok : textOk ops = true) {a0 : Act} {vs : Nat → (Nat → Nat) → Value} {as : Nat → (Nat → Nat) → Act} (h0 : as 0 = fun _ => a0)
    (hst : ∀ i o, ops[i]? = some o → (Hangs ops i (vs i) ∧ Step P ops S i o (as i) (vs i)) ∧ as (i + 1) = fun g => (as i g).put o.dst (vs i g))
    (hfin : ∀ b g w, (∀ j, j < ops.size → b j = true) → S b g w → Q .normal (as ops.size g) w) :
    ∀ (m : Nat) (b : Nat → Bool) (g : Nat → Nat) (l : Array Bool) (a : Act) (w : World), l.size = ops.size → (∀ j, j < ops.size → l[j]? = some (b j)) → (∀ j, ops.size ≤ j → b j = false) → ((List.range ops.size).filter fun j => !b j).length = m →
      (∀ i o, ops[i]? = some o → b i = true → ∀ j ∈ needsOf o, b j = true) → Filled ops a0 (fun j => vs j g) b a → S b g w → wpAny P .any ops Q m l a w := by
  -- the text's own frames are filled
  have htext : ∀ (g : Nat → Nat) i, i ≤ ops.size → Filled ops a0 (fun j => vs j g) (fun j => decide (j < i)) (as i g) := by
    intro g i
    induction i with
    | zero => intro _; rw [h0]; exact ⟨rfl, rfl, fun _ _ _ _ _ hb => by simp at hb, fun _ _ => rfl⟩
    | succ i ih =>
      intro hi
      have hlt : i < ops.size := by omega
      have ho : ops[i]? = some ops[i] := Array.getElem?_eq_getElem hlt
      rw [(hst i _ ho).2]
      have := (ih (by omega)).put hok ho (by simp)
      have e : up (fun j => decide (j < i)) i = fun j => decide (j < i + 1) := by
        funext j
        unfold up
        by_cases h : j = i
        · simp [h]
        · have : (j < i + 1) ↔ (j < i) := by omega
          simp [h, this]
      rw [e] at this
      exact this
  intro m
  induction m with
  | zero =>
    intro b g l a w hsz hl hbo hm hc hf hS
    have hall : ∀ j, j < ops.size → b j = true := by
      intro j hj
      cases hb : b j with
      | true => rfl
      | false =>
        have : j ∈ (List.range ops.size).filter fun j => !b j := List.mem_filter.2 ⟨List.mem_range.2 hj, by simp [hb]⟩
        rw [List.eq_nil_of_length_eq_zero hm] at this
        cases this
    refine ⟨?_, ?_⟩
    · refine List.eq_nil_iff_forall_not_mem.2 (fun i hi => ?_)
      obtain ⟨o, ho, hb, _⟩ := list_ready hl hi
      rw [hall i (Array.getElem?_eq_some_iff.1 ho).1] at hb
      cases hb
    · have hft := htext g ops.size (Nat.le_refl _)
      have ea : a = as ops.size g := by
        have et : a.tmps = (as ops.size g).tmps := by
          apply Array.ext_getElem?
          intro t
          exact hf.slot hft t (fun j p hj hp => ⟨hall j (Array.getElem?_eq_some_iff.1 hj).1, by simpa using (Array.getElem?_eq_some_iff.1 hj).1⟩)
        have ed : a.defers = (as ops.size g).defers := by rw [hf.defers, hft.defers]
        cases a; cases h : as ops.size g; simp_all
      rw [ea]
      exact hfin b g w hall hS
  | succ m ih =>
    intro b g l a w hsz hl hbo hm hc hf hS
    refine ⟨fun hr => ?_, fun i hi => ?_⟩
    · exfalso
      -- the smallest that hasn't come up is ready
      have hex : ∃ i, i < ops.size ∧ b i = false ∧ ∀ j, j < i → b j = true := by
        have hne : ∃ x, x < ops.size ∧ b x = false := by
          cases hfl : (List.range ops.size).filter (fun j => !b j) with
          | nil => rw [hfl] at hm; simp at hm
          | cons x r =>
            have hx : x ∈ (List.range ops.size).filter (fun j => !b j) := by rw [hfl]; exact List.mem_cons_self
            rw [List.mem_filter, List.mem_range] at hx
            exact ⟨x, hx.1, by simpa using hx.2⟩
        obtain ⟨x, hx⟩ := hne
        have hmin : ∀ k x, x ≤ k → x < ops.size → b x = false → ∃ i, i < ops.size ∧ b i = false ∧ ∀ j, j < i → b j = true := by
          intro k
          induction k with
          | zero =>
            intro x hk h1 h2
            exact ⟨x, h1, h2, fun j hj => by omega⟩
          | succ k ihk =>
            intro x hk h1 h2
            by_cases hlow : ∃ y, y < x ∧ b y = false
            · obtain ⟨y, hy, hy2⟩ := hlow
              exact ihk y (by omega) (by omega) hy2
            · refine ⟨x, h1, h2, fun j hj => ?_⟩
              cases hbj : b j with
              | true => rfl
              | false => exact absurd ⟨j, hj, hbj⟩ hlow
        exact hmin x x (Nat.le_refl _) hx.1 hx.2
      obtain ⟨i, hilt, hib, hlow⟩ := hex
      have ho : ops[i]? = some ops[i] := Array.getElem?_eq_getElem hilt
      obtain ⟨_, hlt, _, _⟩ := textOk_at hok ho
      have : i ∈ Region.ready .any ops l := by
        rw [mem_ready]
        refine ⟨by simp [Array.getD_eq_getD_getElem?, hl i hilt, hib], _, ho, fun e he hbd => ?_⟩
        have hj : e.on ∈ needsOf ops[i] := List.mem_map.2 ⟨e, List.mem_filter.2 ⟨by simpa using he, hbd⟩, rfl⟩
        have := hlt _ hj
        simp [Array.getD_eq_getD_getElem?, hl e.on (by omega), hlow e.on this]
      rw [hr] at this
      cases this
    · obtain ⟨o, ho, hb, hneed⟩ := list_ready hl hi
      have hilt := (Array.getElem?_eq_some_iff.1 ho).1
      obtain ⟨hsel, hlt, hlook, _⟩ := textOk_at hok ho
      have hneed' : ∀ j ∈ needsOf o, b j = true := fun j hj => hneed j hj (by have := hlt j hj; omega)
      have hoff : ∀ j p, ops[j]? = some p → i ∈ needsOf p → b j = false := by
        intro j p hj hij
        cases hbj : b j with
        | false => rfl
        | true => have := hc j p hj hbj i hij; rw [hb] at this; cases this
      have hft := htext g i (by omega)
      have hlike : ∀ t, t ∈ o.looksAt ops → (as i g).tmps[t]? = a.tmps[t]? := fun t ht =>
        hft.slot hf t (fun j p hj hp => by
          have hjn := hlook j p t hj hp ht
          exact ⟨by simpa using hlt j hjn, hneed' j hjn⟩)
      have hnext : ∀ g' w', (∀ j, b j = true → vs j g' = vs j g) → S (up b i) g' w' → wpAny P .any ops Q m (l.setIfInBounds i true) (a.put o.dst (vs i g')) w' := by
        intro g' w' hg' hS'
        have hf' : Filled ops a0 (fun j => vs j g') b a := ⟨hf.size, hf.defers, fun j p t hj hp hbj ht => by rw [hg' j hbj]; exact hf.on j p t hj hp hbj ht, hf.off⟩
        refine ih (up b i) g' _ _ w' (by simp [hsz]) ?_ ?_ ?_ ?_ (hf'.put hok ho hb) hS'
        · intro j hj
          by_cases e : i = j
          · subst e; simp [up, hsz, hj]
          · rw [Array.getElem?_setIfInBounds_ne e, hl j hj]; simp [up, Ne.symm e]
        · intro j hj
          simp only [up]
          rw [if_neg (by omega)]
          exact hbo j hj
        · have hcount : ∀ (L : List Nat), L.Nodup → i ∈ L → (L.filter fun j => !up b i j).length + 1 = (L.filter fun j => !b j).length := by
            intro L
            induction L with
            | nil => intro _ h; cases h
            | cons x r ihr =>
              intro hn hmem
              rw [List.nodup_cons] at hn
              rcases List.mem_cons.1 hmem with rfl | hmem
              · have e : (r.filter fun j => !up b i j) = r.filter fun j => !b j := by
                  refine List.filter_congr (fun j hj => ?_)
                  have : j ≠ i := fun e => hn.1 (by rw [← e]; exact hj)
                  simp [up, this]
                rw [List.filter_cons, List.filter_cons]
                simp [up, hb]
                have e2 := congrArg List.length e
                simpa [up] using e2
              · have hxi : x ≠ i := fun e => hn.1 (e ▸ hmem)
                have h1 := ihr hn.2 hmem
                rw [List.filter_cons, List.filter_cons]
                have : up b i x = b x := by simp [up, hxi]
                rw [this]
                cases hbx : b x
                · simp only [Bool.not_false, if_true, List.length_cons]; omega
                · simpa using h1
          have := hcount (List.range ops.size) List.nodup_range (List.mem_range.2 hilt)
          omega
        · intro j p hj hbj k hk
          by_cases e : j = i
          · subst e
            rw [ho] at hj; cases hj
            have h1 := hneed' k hk
            unfold up; split
            · rfl
            · exact h1
          · have h1 := hc j p hj (by simpa [up, e] using hbj) k hk
            unfold up; split
            · rfl
            · exact h1
      have hanc : ∀ j k, Anc ops j k → b j = true → b k = true := by
        intro j k hjk
        induction hjk with
        | one hj hk => exact fun hbj => hc _ _ hj hbj _ hk
        | more hj hk _ ihk => exact fun hbj => ihk (hc _ _ hj hbj _ hk)
      have hkeep : ∀ n j, b j = true → vs j (upd g i n) = vs j g := by
        intro n j hbj
        by_cases hjl : j < ops.size
        · refine (hst j _ (Array.getElem?_eq_getElem hjl)).1.1 _ _ (fun k hk => ?_)
          have hbk : b k = true := by
            rcases hk with rfl | hk
            · exact hbj
            · exact hanc j k hk hbj
          have : k ≠ i := fun e => by rw [e, hb] at hbk; cases hbk
          simp [upd, this]
        · rw [hbo j (by omega)] at hbj; cases hbj
      unfold wpOp
      rw [ho]
      simp only
      rw [← wanted_same (a := as i g) (a' := a) hlike]
      rcases (hst i o ho).1.2 b g w hS hb hneed' hoff with ⟨hw, hwp⟩ | ⟨hw, hv, hS'⟩
      · rw [if_pos hw]
        exact .inl (wp_same (v := fun n => vs i (upd g i n)) (R := fun n w' => S (up b i) (upd g i n) w') (exec_same hsel hlike) (by rw [hft.size, hf.size]) (fun n w' hS' => hnext _ w' (hkeep n) hS') hwp)
      · rw [hw]
        simp only [Bool.false_eq_true, if_false]
        rw [← hv]
        exact hnext g w (fun _ _ => rfl) hS'

/-- THE LAW: a region whose order is open, walked in the text's order. -/
theorem region_text {id : Nat} {a : Act} {w : World} {l : List Oper} (hm : P.follows .mixedOrders = true) (hok : textOk l.toArray = true) (S : (Nat → Bool) → (Nat → Nat) → World → Prop) (hS : S (fun _ => false) (fun _ => 0) w.drew)
    (h : TextRun P l.toArray S (fun a' => ∀ b g w', (∀ j, j < l.length → b j = true) → S b g w' → Q .normal (a' g) w') 0 l (fun _ => a)) : (Code.region id l.toArray true).wp P Q a w := by
  refine wp_region_any hm ?_
  obtain ⟨vs, as, h0, h1, h2⟩ := textRun_vals _ _ _ _ h
  simp only [Nat.zero_add] at h1
  refine region_any hok (vs := vs) h0 (fun i o hi => ?_) (fun b g w hb hs => h1 b g w (by simpa using hb) hs) l.toArray.size (fun _ => false) (fun _ => 0) _ a w.drew (by simp) (fun j hj => by simp at hj; simp [hj]) (fun _ _ => rfl) (by rw [List.filter_eq_self.2 (by simp)]; simp) (fun _ _ _ hb => by simp at hb)
    ⟨rfl, rfl, fun _ _ _ _ _ hb => by simp at hb, fun _ _ => rfl⟩ hS
  have := h2 i o (by simpa using hi)
  simpa using this

section
variable {Fin : ((Nat → Nat) → Act) → Prop} {i : Nat} {o : Oper} {rest : List Oper} {a : (Nat → Nat) → Act}
/-- An operation that yields v, whatever has come up, and leaves the world as it is. hS: its having come up is not asked. -/
theorem t_val (v : (Nat → Nat) → Value) (hv : Hangs ops i v) (hw : ∀ g, Region.wanted o (yielded ops (a g).tmps) = true)
    (h : ∀ b g w, S b g w → b i = false → (∀ j ∈ needsOf o, b j = true) → (∀ n, v (upd g i n) = v g) → ((execOp (a g).eval o).run P w = .ok (.value (v g)) w ∧ S (up b i) g w))
    (hn : ∀ g n, v (upd g i n) = v g)
    (hr : TextRun P ops S Fin (i + 1) rest (fun g => (a g).put o.dst (v g))) : TextRun P ops S Fin i (o :: rest) a :=
  ⟨v, hv, fun b g w hS hb hj _ => .inl ⟨hw g, by
    obtain ⟨h1, h2⟩ := h b g w hS hb hj (hn g)
    unfold Oper.wp
    rw [h1]
    refine ⟨g i, ?_⟩
    have e : upd g i (g i) = g := by funext j; unfold upd; split <;> simp_all
    rw [e]
    exact ⟨rfl, h2⟩⟩, hr⟩
end
end
end Go.Proofs.YtpkpnaedacefaaaGreat.Lib
namespace Go.Proofs.YtpkpnaedacefaaaGreat.Lib
set_option linter.unusedVariables false
set_option linter.unusedSimpArgs false
open Go
section
variable {P : Program} {ops : Array Oper} {S : (Nat → Bool) → (Nat → Nat) → World → Prop} {Fin : ((Nat → Nat) → Act) → Prop} {i : Nat} {o : Oper} {rest : List Oper} {a : (Nat → Nat) → Act}

theorem upd_same (g : Nat → Nat) (i : Nat) : upd g i (g i) = g := by funext j; unfold upd; split <;> simp_all
theorem up_of_ne {b : Nat → Bool} {i j : Nat} (h : j ≠ i) : up b i j = b j := by simp [up, h]
theorem up_at (b : Nat → Bool) (i : Nat) : up b i i = true := by simp [up]

/-- An operation that yields one value and leaves the world as it is; S doesn't ask whether it has come up. -/
theorem t_pure (v : Value) (hw : ∀ g, Region.wanted o (yielded ops (a g).tmps) = true) (hS : ∀ b g w, S b g w → S (up b i) g w)
    (h : ∀ b g w, S b g w → (∀ j ∈ needsOf o, b j = true) → (execOp (a g).eval o).run P w = .ok (.value v) w)
    (hr : TextRun P ops S Fin (i + 1) rest (fun g => (a g).put o.dst v)) : TextRun P ops S Fin i (o :: rest) a :=
  ⟨fun _ => v, hangs_const, fun b g w hs hb hj _ => .inl ⟨hw g, by
    unfold Oper.wp
    rw [h b g w hs hj]
    exact ⟨g i, rfl, by rw [upd_same]; exact hS b g w hs⟩⟩, hr⟩
/-- An operation whose value hangs on addresses of the region's own. -/
theorem t_addr (v : (Nat → Nat) → Value) (hv : Hangs ops i v) (hn : ∀ g n, v (upd g i n) = v g) (hw : ∀ g, Region.wanted o (yielded ops (a g).tmps) = true) (hS : ∀ b g w, S b g w → S (up b i) g w)
    (h : ∀ b g w, S b g w → (∀ j ∈ needsOf o, b j = true) → (execOp (a g).eval o).run P w = .ok (.value (v g)) w)
    (hr : TextRun P ops S Fin (i + 1) rest (fun g => (a g).put o.dst (v g))) : TextRun P ops S Fin i (o :: rest) a :=
  ⟨v, hv, fun b g w hs hb hj _ => .inl ⟨hw g, by
    unfold Oper.wp
    rw [h b g w hs hj]
    exact ⟨g i, by rw [upd_same], by rw [upd_same]; exact hS b g w hs⟩⟩, hr⟩
/-- An operation that yields one value and changes the world. -/
theorem t_run (v : Value) (hw : ∀ g, Region.wanted o (yielded ops (a g).tmps) = true)
    (h : ∀ b g w, S b g w → b i = false → (∀ j ∈ needsOf o, b j = true) → (∀ j p, ops[j]? = some p → i ∈ needsOf p → b j = false) → ∃ w', (execOp (a g).eval o).run P w = .ok (.value v) w' ∧ S (up b i) g w')
    (hr : TextRun P ops S Fin (i + 1) rest (fun g => (a g).put o.dst v)) : TextRun P ops S Fin i (o :: rest) a :=
  ⟨fun _ => v, hangs_const, fun b g w hs hb hj hf => .inl ⟨hw g, by
    obtain ⟨w', h1, h2⟩ := h b g w hs hb hj hf
    unfold Oper.wp
    rw [h1]
    exact ⟨g i, rfl, by rw [upd_same]; exact h2⟩⟩, hr⟩
/-- A store. -/
theorem t_store (hw : ∀ g, Region.wanted o (yielded ops (a g).tmps) = true)
    (h : ∀ b g w, S b g w → b i = false → (∀ j ∈ needsOf o, b j = true) → (∀ j p, ops[j]? = some p → i ∈ needsOf p → b j = false) → ∃ w', (execOp (a g).eval o).run P w = .ok .skip w' ∧ S (up b i) g w')
    (hr : TextRun P ops S Fin (i + 1) rest (fun g => (a g).put o.dst undef)) : TextRun P ops S Fin i (o :: rest) a :=
  ⟨fun _ => undef, hangs_const, fun b g w hs hb hj hf => .inl ⟨hw g, by
    obtain ⟨w', h1, h2⟩ := h b g w hs hb hj hf
    unfold Oper.wp
    rw [h1]
    exact ⟨g i, rfl, by rw [upd_same]; exact h2⟩⟩, hr⟩
/-- New memory. -/
theorem t_alloc (hw : ∀ g, Region.wanted o (yielded ops (a g).tmps) = true)
    (h : ∀ b g w, S b g w → b i = false → ∃ w', (execOp (a g).eval o).run P w = .ok (.value (.pointer (some ⟨w.heap.size, 0, none⟩))) w' ∧ S (up b i) (upd g i w.heap.size) w')
    (hr : TextRun P ops S Fin (i + 1) rest (fun g => (a g).put o.dst (.pointer (some ⟨g i, 0, none⟩)))) : TextRun P ops S Fin i (o :: rest) a :=
  ⟨fun g => .pointer (some ⟨g i, 0, none⟩), fun g g' hg => by simp only; rw [hg i (.inl rfl)], fun b g w hs hb hj hf => .inl ⟨hw g, by
    obtain ⟨w', h1, h2⟩ := h b g w hs hb
    unfold Oper.wp
    rw [h1]
    exact ⟨w.heap.size, by simp [upd], h2⟩⟩, hr⟩
/-- A call that returns one value. -/
theorem t_call {f : FuncId} {args : Array Value} (v : Value) (hw : ∀ g, Region.wanted o (yielded ops (a g).tmps) = true)
    (he : ∀ b g w, S b g w → (∀ j ∈ needsOf o, b j = true) → (execOp (a g).eval o).run P w = .ok (.enter f args) w)
    (hc : ∀ b g w, S b g w → b i = false → Calls P f args w fun e w' => e = .returned v ∧ S (up b i) g w')
    (hr : TextRun P ops S Fin (i + 1) rest (fun g => (a g).put o.dst v)) : TextRun P ops S Fin i (o :: rest) a :=
  ⟨fun _ => v, hangs_const, fun b g w hs hb hj hf => .inl ⟨hw g, by
    unfold Oper.wp
    rw [he b g w hs hj]
    refine Calls.mono (hc b g w hs hb) (fun e w' h => ?_)
    obtain ⟨rfl, h2⟩ := h
    exact ⟨g i, rfl, by rw [upd_same]; exact h2⟩⟩, hr⟩
/-- An operation whose guard does not want it. -/
theorem t_skip (hw : ∀ g, Region.wanted o (yielded ops (a g).tmps) = false) (hS : ∀ b g w, S b g w → S (up b i) g w)
    (hr : TextRun P ops S Fin (i + 1) rest (fun g => (a g).put o.dst undef)) : TextRun P ops S Fin i (o :: rest) a :=
  ⟨fun _ => undef, hangs_const, fun b g w hs _ _ _ => .inr ⟨hw g, rfl, hS b g w hs⟩, hr⟩
theorem t_end (h : Fin a) : TextRun P ops S Fin i [] a := h
end
end Go.Proofs.YtpkpnaedacefaaaGreat.Lib
