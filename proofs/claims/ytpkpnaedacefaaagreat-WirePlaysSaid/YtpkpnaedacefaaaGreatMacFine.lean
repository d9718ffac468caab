/- What every node keeps, whatever is asked of it and whatever the wire has. -/
import Derived.Test.YtpkpnaedacefaaaGreatMacPure
namespace Go.Proofs.YtpkpnaedacefaaaGreat.MacW
set_option linter.unusedVariables false
set_option linter.unusedSimpArgs false
open Go Go.RowKit Go.Proofs.YtpkpnaedacefaaaGreat.Lib Go.Proofs.YtpkpnaedacefaaaGreat.Bits Go.Proofs.YtpkpnaedacefaaaGreat.BitsW Go.Proofs.YtpkpnaedacefaaaGreat.Frame Go.Proofs.YtpkpnaedacefaaaGreat.FrameW Go.Proofs.YtpkpnaedacefaaaGreat.Code Go.Proofs.YtpkpnaedacefaaaGreat.CodeW Go.Proofs.YtpkpnaedacefaaaGreat.CodeL Go.Proofs.YtpkpnaedacefaaaGreat.Mac
theorem push_ok {r : Rd} (h : r.Inv) (he : r.en ≤ 100) (c : Bool) : Rd.Ok (r.push c).1 ∧ (r.push c).1.en ≤ r.en + 1 := by
  have h1 := h.rn; have h2 := h.len; have h3 := h.need; have h4 := h.sum
  unfold Rd.push
  by_cases hin : r.inBits = true ∨ (r.rn = 5 ∧ r.laid = false ∧ r.en = 0)
  · rw [if_pos hin]
    by_cases h5 : r.rn = 5
    · rw [if_pos h5]
      by_cases hc : c = r.rb
      · rw [if_pos hc]; exact ⟨inv_ok h (by show r.en ≤ 1000000; omega), Nat.le_succ _⟩
      · rw [if_neg hc]; exact ⟨⟨by show 1 ≤ 1000; omega, by show r.b.length ≤ 127; omega, by show r.need ≤ 1000; omega, h4, by show r.en ≤ 1000000; omega⟩, Nat.le_succ _⟩
    · rw [if_neg h5]
      have hI : r.inBits = true := hin.elim id (fun q => absurd q.1 h5)
      have hk : runK r.rn r.rb c ≤ 1000 := by unfold runK; split <;> omega
      have hl2 : (r.b ++ [c]).length ≤ 127 := by simp; omega
      have hs : addC r.sum c < 65536 := by have := addC_lt r.sum c; omega
      unfold Rd.add
      simp only
      split
      · exact ⟨⟨hk, hl2, by show r.need ≤ 1000; omega, hs, by show r.en ≤ 1000000; omega⟩, Nat.le_succ _⟩
      · split
        · exact ⟨⟨hk, hl2, by show r.need ≤ 1000; omega, hs, by show r.en ≤ 1000000; omega⟩, Nat.le_succ _⟩
        · exact ⟨⟨hk, hl2, by have := need_max (r.b ++ [c]); show (needL (r.b ++ [c])).1 ≤ 1000; omega, hs, by show r.en ≤ 1000000; omega⟩, Nat.le_succ _⟩
  · rw [if_neg hin]
    exact ⟨⟨by show r.rn ≤ 1000; omega, by show r.b.length ≤ 127; omega, by show r.need ≤ 1000; omega, h4, by show r.en + 1 ≤ 1000000; omega⟩, Nat.le_refl _⟩
/-- What a sender keeps. -/
structure OnOk (m : M) : Prop where
  st : m.st = 1
  w : m.waits = true
  bits : m.bits = m.f.code
  arb : m.arb = m.f.arb
  p0 : 0 < m.pos
  pos : m.pos < m.f.ack.length
  r : m.r = Rd.zero.all (m.f.ack.take m.pos)
structure Fine (m : M) : Prop where
  rok : Rd.Ok m.r
  ren : m.r.en ≤ 1000
  lo : 0 ≤ m.left
  hi : m.left ≤ 7
  wf : m.f.wf
  ok : m.waits = true → m.f.ok = true
  on : m.on = true → OnOk m
  inv : m.st = 1 → m.r.Inv ∧ m.r.en ≤ 10
  sent : 0 ≤ m.sent ∧ m.sent ≤ 1000
  got : 0 ≤ m.got ∧ m.got ≤ 1000
  st : 0 ≤ m.st ∧ m.st ≤ 7
theorem Fine.good {m : M} (h : Fine m) (hw : m.waits = true) : m.f.Good := ⟨h.ok hw, h.wf⟩
theorem Fine.safe {m : M} (h : Fine m) : Safe m :=
  ⟨by have := h.rok.len; omega, by have := h.lo; omega, by have := h.hi; omega, h.wf, fun e => ⟨(h.inv e).1, by have := (h.inv e).2; omega⟩,
    fun e => by
      have ho := h.on e
      have hg := h.good ho.w
      have hl := code_len hg
      have := (f_len hg).2
      have := ack_len m.f
      have := ho.pos
      rw [ho.bits]
      omega⟩
theorem Fine.cok {m : M} (h : Fine m) : cOk m.sent m.got = true := by
  unfold cOk
  have h1 := h.sent; have h2 := h.got
  simp only [Bool.and_eq_true, decide_eq_true_eq]
  omega
theorem sentC_fine {s : Int} (h : 0 ≤ s ∧ s ≤ 1000) (b : Bool) : 0 ≤ sentC s b ∧ sentC s b ≤ 1000 := by
  unfold sentC; cases b <;> simp <;> omega
theorem gotC_fine {s : Int} (h : 0 ≤ s ∧ s ≤ 1000) (b : Bool) : 0 ≤ gotC s b ∧ gotC s b ≤ 1000 := by
  unfold gotC; cases b
  · simp; omega
  · simp only [if_true]; split <;> omega
theorem fine_new : Fine M.new :=
  ⟨rd_zero_ok, by decide, by decide, by decide, wf_zero, fun h => absurd (show false = true from h) (by decide), fun h => absurd (show false = true from h) (by decide), fun h => absurd (show (6 : Int) = 1 from h) (by decide), by decide, by decide, by decide⟩
theorem Fine.same {m : M} (h : Fine m) (s l : Int) (hs : 0 ≤ s ∧ s ≤ 7) (h1 : s ≠ 1) (hl : 0 ≤ l ∧ l ≤ 7) (ho : m.on = false) : Fine { m with st := s, left := l } :=
  ⟨h.rok, h.ren, hl.1, hl.2, h.wf, h.ok, fun e => (by rw [show m.on = true from e] at ho; cases ho), fun e => absurd e h1, h.sent, h.got, hs⟩
theorem Fine.done {m : M} (h : Fine m) : Fine m.done :=
  ⟨h.rok, h.ren, h.lo, h.hi, wf_zero, fun e => (by cases (show false = true from e)), fun e => (by cases (show false = true from e)), h.inv, h.sent, h.got, h.st⟩
theorem Fine.counts {m : M} (h : Fine m) (s g : Int) (hs : 0 ≤ s ∧ s ≤ 1000) (hg : 0 ≤ g ∧ g ≤ 1000) : Fine { m with sent := s, got := g } :=
  ⟨h.rok, h.ren, h.lo, h.hi, h.wf, h.ok, fun e => let o := h.on e; ⟨o.st, o.w, o.bits, o.arb, o.p0, o.pos, o.r⟩, h.inv, hs, hg, h.st⟩
theorem Fine.off {m : M} (h : Fine m) (hs : m.st ≠ 1) : m.on = false := by
  cases ho : m.on
  · rfl
  · exact absurd (h.on ho).st hs
theorem fine_ask {m : M} (h : Fine m) {f : Fm} (hf : f.wf) : Fine (m.ask f).1 := by
  unfold M.ask
  split
  · exact h
  · split
    · exact h
    · rename_i h1 h2
      split
      · exact h
      · rename_i h3
        have ho : m.on = false := by
          cases ho : m.on
          · rfl
          · exact absurd (h.on ho).w h3
        exact ⟨h.rok, h.ren, h.lo, h.hi, hf, fun _ => by simpa using h2, fun e => (by rw [show m.on = true from e] at ho; cases ho), h.inv, h.sent, h.got, h.st⟩
theorem fine_cancel {m : M} (h : Fine m) : Fine m.cancel.1 := by
  unfold M.cancel
  split
  · exact h
  · exact h.done
theorem fine_flags {m : M} (h : Fine m) (ho : m.on = false) (x : Ev) : Fine (m.flags x).1 := by
  unfold M.flags
  split
  · exact h.same 7 m.left (by decide) (by decide) ⟨h.lo, h.hi⟩ ho
  · exact h.same 3 6 (by decide) (by decide) (by decide) ho
theorem fine_fails {m : M} (h : Fine m) (f : Fm) (e : Int) : Fine (m.fails f e).1 := by
  unfold M.fails
  refine fine_flags ?_ rfl _
  have h2 := h.done
  rw [if_pos h.cok]
  exact h2.counts _ m.got (sentC_fine h.sent _) h.got
theorem rd_first : (Rd.zero.push false).1.Inv ∧ (Rd.zero.push false).1.en = 0 := by
  have := Rd.zero_inv.push false rfl
  exact ⟨this.1, rfl⟩
theorem fine_begins {m : M} (h : Fine m) (ho : m.on = false) (b : Bool) (hb : b = true → m.waits = true) : Fine (m.begins b).1 := by
  have hr := rd_first
  unfold M.begins
  cases b
  · rw [if_neg (by simp)]
    exact ⟨inv_ok hr.1 (by rw [hr.2]; decide), by show (Rd.zero.push false).1.en ≤ 1000; rw [hr.2]; decide, h.lo, h.hi, h.wf, h.ok, fun e => (by rw [show m.on = true from e] at ho; cases ho), fun _ => ⟨hr.1, by show (Rd.zero.push false).1.en ≤ 10; rw [hr.2]; decide⟩, h.sent, h.got, (by show (0 : Int) ≤ 1 ∧ (1 : Int) ≤ 7; decide)⟩
  · rw [if_pos rfl]
    have hw := hb rfl
    have hg := h.good hw
    have hl := (f_len hg).1
    have hl2 := ack_len m.f
    refine ⟨inv_ok hr.1 (by rw [hr.2]; decide), by show (Rd.zero.push false).1.en ≤ 1000; rw [hr.2]; decide, h.lo, h.hi, h.wf, h.ok, fun _ => ⟨rfl, hw, rfl, rfl, (by show 0 < 1; decide), (by show 1 < m.f.ack.length; omega), rd_one m.f⟩, fun _ => ⟨hr.1, by show (Rd.zero.push false).1.en ≤ 10; rw [hr.2]; decide⟩, h.sent, h.got, (by show (0 : Int) ≤ 1 ∧ (1 : Int) ≤ 7; decide)⟩
theorem fine_hears {m : M} (h : Fine m) (h1 : m.st = 1) (ho : m.on = false) (c : Bool) : Fine (m.hears c).1 := by
  obtain ⟨hi, he⟩ := h.inv h1
  obtain ⟨k1, k2⟩ := push_ok hi (by omega) c
  have hne : ¬ ((3 : Int) = 1) := by decide
  unfold M.hears
  split
  · rename_i hp
    have base : Fine { m with st := 2, r := (m.r.push c).1, got := if cOk m.sent m.got then gotC m.got false else m.got } :=
      ⟨k1, (by show (m.r.push c).1.en ≤ 1000; omega), h.lo, h.hi, h.wf, h.ok, fun e => (by rw [show m.on = true from e] at ho; cases ho), fun e => absurd (show (2 : Int) = 1 from e) (by decide), h.sent,
        (by show 0 ≤ (if cOk m.sent m.got then gotC m.got false else m.got) ∧ (if cOk m.sent m.got then gotC m.got false else m.got) ≤ 1000; rw [if_pos h.cok]; exact gotC_fine h.got _), (by show (0 : Int) ≤ 2 ∧ (2 : Int) ≤ 7; decide)⟩
    have := fine_flags base ho ⟨5, Fm.zero, (m.r.push c).2⟩
    unfold M.flags at this ⊢
    split
    · rename_i hx
      rw [if_pos hx] at this
      exact this
    · rename_i hx
      rw [if_neg hx] at this
      exact this
  · rename_i hp
    have hinv := hi.push c (by simpa using hp)
    split
    · exact ⟨k1, (by show (m.r.push c).1.en ≤ 1000; omega), h.lo, h.hi, h.wf, h.ok, fun e => (by rw [show m.on = true from e] at ho; cases ho), fun _ => ⟨hinv.1, (by show (m.r.push c).1.en ≤ 10; omega)⟩, h.sent, h.got, h.st⟩
    · exact ⟨k1, (by show (m.r.push c).1.en ≤ 1000; omega), h.lo, h.hi, h.wf, h.ok, fun e => (by rw [show m.on = true from e] at ho; cases ho), fun e => absurd (show (2 : Int) = 1 from e) (by decide), h.sent,
        (by show 0 ≤ (if cOk m.sent m.got then gotC m.got true else m.got) ∧ (if cOk m.sent m.got then gotC m.got true else m.got) ≤ 1000; rw [if_pos h.cok]; exact gotC_fine h.got _), (by show (0 : Int) ≤ 2 ∧ (2 : Int) ≤ 7; decide)⟩
/-- What a sender makes of a bit: it loses, fails, goes on, or is done. -/
theorem on_cases {m : M} (hg : m.f.Good) (o : OnOk m) (c : Bool) :
    ((c = false ∧ m.f.ack[m.pos]'o.pos = true ∧ m.pos < m.f.arb) ∧ m.sends c = ((m.done.hears c).1, ⟨3, m.f, 0⟩ :: (m.done.hears c).2)) ∨
    (m.pos + 9 = m.f.ack.length ∧ c = true ∧ m.sends c = m.fails m.f 71) ∨
    (m.pos + 9 ≠ m.f.ack.length ∧ c ≠ m.f.ack[m.pos]'o.pos ∧ ¬ (c = false ∧ m.pos < m.f.arb) ∧ m.sends c = m.fails m.f 70) ∨
    (c = m.f.ack[m.pos]'o.pos ∧ m.pos + 1 < m.f.ack.length ∧ m.sends c = ({ m with r := Rd.zero.all (m.f.ack.take (m.pos + 1)), pos := m.pos + 1 }, [])) ∨
    (c = m.f.ack[m.pos]'o.pos ∧ m.pos + 1 = m.f.ack.length ∧ m.sends c = (M.pauses { m.done with r := Rd.zero.all m.f.ack, sent := if cOk m.sent m.got then sentC m.sent true else m.sent }, [⟨1, m.f, 0⟩])) := by
  have hl := ack_len m.f
  have hp := o.pos
  have ha := f_arb hg
  have hbl : m.bits.length = m.f.ack.length := by rw [o.bits]; exact code_len hg
  have hd : m.bits.getD m.pos false = if m.pos = (stuff m.f.S).length + 1 then true else m.f.ack[m.pos]'o.pos := by
    rw [o.bits, f_code hg, code_getD m.pos o.pos]; rfl
  have hk : m.pos = (stuff m.f.S).length + 1 → m.f.ack[m.pos]'o.pos = false := by
    intro e
    show (stuff m.f.S ++ ackT)[m.pos]'o.pos = false
    simp only [e]
    rw [List.getElem_append_right (by omega)]
    simp only [Nat.add_sub_cancel_left]
    rfl
  have hpu : m.f.ack[m.pos]'o.pos = c → (m.r.push c).1 = Rd.zero.all (m.f.ack.take (m.pos + 1)) := by
    intro e
    rw [o.r, all_snoc _ _ m.pos o.pos, e]
  have harb := o.arb
  unfold M.sends
  rw [hd, hbl, harb]
  generalize hA : m.f.ack[m.pos]'o.pos = A at *
  by_cases hq : m.pos = (stuff m.f.S).length + 1
  · have hA0 := hk hq
    subst hA0
    rw [if_pos hq, if_neg (by omega)]
    cases c
    · rw [if_neg (by simp), if_neg (by simp; omega), if_pos (by omega), hpu rfl]
      exact .inr (.inr (.inr (.inl ⟨rfl, by omega, rfl⟩)))
    · rw [if_pos (by constructor; omega; rfl)]
      exact .inr (.inl ⟨by omega, rfl, rfl⟩)
  · rw [if_neg hq]
    have hn9 : m.pos + 9 ≠ m.f.ack.length := by omega
    by_cases hc : c = A
    · subst hc
      rw [if_neg (by rintro ⟨h1, h2, _⟩; rw [h1] at h2; cases h2), if_neg (by omega), if_neg (by simp), hpu rfl]
      by_cases hz : m.pos + 1 < m.f.ack.length
      · rw [if_pos hz]
        exact .inr (.inr (.inr (.inl ⟨rfl, hz, rfl⟩)))
      · rw [if_neg hz, List.take_of_length_le (by omega)]
        exact .inr (.inr (.inr (.inr ⟨rfl, by omega, rfl⟩)))
    · by_cases hz : A = true ∧ c = false ∧ m.pos < m.f.arb
      · rw [if_pos hz]
        exact .inl ⟨⟨hz.2.1, hz.1, hz.2.2⟩, rfl⟩
      · rw [if_neg hz, if_neg (by omega), if_pos ⟨by omega, hc⟩]
        refine .inr (.inr (.inl ⟨hn9, hc, ?_, rfl⟩))
        rintro ⟨h1, h2⟩
        subst h1
        refine hz ⟨?_, rfl, h2⟩
        cases A
        · exact absurd rfl hc
        · rfl
theorem fine_sends {m : M} (h : Fine m) (ho : m.on = true) (c : Bool) : Fine (m.sends c).1 := by
  have o := h.on ho
  have hg := h.good o.w
  have hlen := f_len hg
  have hal := ack_len m.f
  rcases on_cases hg o c with ⟨_, e⟩ | ⟨_, _, e⟩ | ⟨_, _, _, e⟩ | ⟨_, hp, e⟩ | ⟨_, hp, e⟩
  · rw [e]
    exact fine_hears h.done o.st rfl c
  · rw [e]; exact fine_fails h _ _
  · rw [e]; exact fine_fails h _ _
  · rw [e]
    have i1 := ack_inv hg (Nat.le_of_lt hp)
    have i2 := ack_en hg (Nat.le_of_lt hp)
    exact ⟨inv_ok i1 (by show (Rd.zero.all (m.f.ack.take (m.pos + 1))).en ≤ 1000000; omega), by show (Rd.zero.all (m.f.ack.take (m.pos + 1))).en ≤ 1000; omega, h.lo, h.hi, h.wf, h.ok, fun _ => ⟨o.st, o.w, o.bits, o.arb, Nat.succ_pos _, hp, rfl⟩, fun _ => ⟨i1, i2⟩, h.sent, h.got, h.st⟩
  · rw [e]
    have i1 := ack_inv hg (Nat.le_refl _)
    have i2 := ack_en hg (Nat.le_refl _)
    rw [List.take_length] at i1 i2
    exact ⟨inv_ok i1 (by show (Rd.zero.all m.f.ack).en ≤ 1000000; omega), by show (Rd.zero.all m.f.ack).en ≤ 1000; omega, (by show (0 : Int) ≤ 3; decide), (by show (3 : Int) ≤ 7; decide), wf_zero, fun e => (by cases (show false = true from e)), fun e => (by cases (show false = true from e)), fun e => absurd (show (6 : Int) = 1 from e) (by decide),
      (by show 0 ≤ (if cOk m.sent m.got then sentC m.sent true else m.sent) ∧ (if cOk m.sent m.got then sentC m.sent true else m.sent) ≤ 1000; rw [if_pos h.cok]; exact sentC_fine h.sent _), h.got, (by show (0 : Int) ≤ 6 ∧ (6 : Int) ≤ 7; decide)⟩
theorem fine_counted {m : M} (h : Fine m) (ho : m.on = false) (h1 : m.st ≠ 1) (s l : Int) (hs : 0 ≤ s ∧ s ≤ 7) (hs1 : s ≠ 1) (hl : 0 ≤ l ∧ l ≤ 7) : Fine (m.counted s l) := by
  unfold M.counted
  split
  · exact h.same s l hs hs1 hl ho
  · exact h.same m.st (m.left - 1) h.st h1 ⟨by omega, by have := h.hi; omega⟩ ho
/-- Every node keeps it. -/
theorem fine_sample {m : M} (h : Fine m) (c : Bool) : Fine (m.sample c).1 := by
  unfold M.sample
  by_cases h0 : m.st = 0
  · rw [if_pos h0]
    have ho := h.off (by omega)
    split
    · exact h
    · exact fine_begins h ho _ (fun e => e)
  rw [if_neg h0]
  by_cases h1 : m.st = 1
  · rw [if_pos h1]
    split
    · rename_i ho; exact fine_sends h ho c
    · rename_i ho; exact fine_hears h h1 (by simpa using ho) c
  rw [if_neg h1]
  have ho := h.off h1
  by_cases h2 : m.st = 2
  · rw [if_pos h2]
    exact h.same 6 3 (by decide) (by decide) (by decide) ho
  rw [if_neg h2]
  by_cases h3 : m.st = 3
  · rw [if_pos h3]
    exact fine_counted h ho h1 4 0 (by decide) (by decide) (by decide)
  rw [if_neg h3]
  by_cases h4 : m.st = 4
  · rw [if_pos h4]
    simp only
    split
    · exact h.same 5 7 (by decide) (by decide) (by decide) ho
    · exact h
  rw [if_neg h4]
  by_cases h5 : m.st = 5
  · rw [if_pos h5]
    simp only
    split
    · exact fine_counted h ho h1 6 3 (by decide) (by decide) (by decide)
    · exact h.same m.st 7 h.st h1 (by decide) ho
  rw [if_neg h5]
  split
  · split
    · exact fine_counted h ho h1 0 0 (by decide) (by decide) (by decide)
    · exact fine_begins h ho _ (fun e => by cases e)
  · exact h
/-- Contracts of a node that keeps it. -/
structure Nf (w0 W : World) (g : Nat) (m : M) : Prop where
  nd : Nd w0 W g m
  fine : Fine m
theorem Nf.later {w0 W W' : World} {g : Nat} {m : M} (h : Nf w0 W g m) (k : Below W.heap.size W W') : Nf w0 W' g m := ⟨h.nd.later k, h.fine⟩
theorem Nf.drew {w0 W : World} {g : Nat} {m : M} (h : Nf w0 W g m) : Nf w0 W.drew g m := ⟨h.nd.drew, h.fine⟩
theorem Nf.far {w0 W W' : World} {g g' : Nat} {m : M} (h : Nf w0 W g' m) (k : W.grownBy W' (some g)) (hne : g' ≠ g) (hg : w0.heap.size ≤ g) : Nf w0 W' g' m := ⟨h.nd.far k hne hg, h.fine⟩
theorem nf_sample {w0 W : World} {g : Nat} {m : M} (h : Nf w0 W g m) (c : Bool) (x : Int) (hx : (x == 48) = !c) : Calls Tryz.prog 28 #[.pointer (some ⟨g, 0, none⟩), .int .u8 x] W fun e w' =>
    ∃ v, e = .returned v ∧ Nf w0 w' g (m.sample c).1 ∧ Evs w' W.heap.size v (m.sample c).2 ∧ W.grownBy w' (some g) :=
  (nd_sample h.nd h.fine.safe c x hx).mono fun e w' ⟨v, h1, h2, h3, h4⟩ => ⟨v, h1, ⟨h2, fine_sample h.fine c⟩, h3, h4⟩
theorem nf_drive {w0 W : World} {g : Nat} {m : M} (h : Nf w0 W g m) : Calls Tryz.prog 26 #[.pointer (some ⟨g, 0, none⟩)] W fun e w' =>
    e = .returned (.int .u8 ((sg m.drive).toNat : Int)) ∧ Nf w0 w' g m ∧ W.grownBy w' (some g) :=
  (nd_drive h.nd h.fine.safe h.fine.rok).mono fun e w' ⟨h1, h2, h3⟩ => ⟨h1, ⟨h2, h.fine⟩, h3⟩
theorem nf_ask {w0 W : World} {g : Nat} {m : M} (h : Nf w0 W g m) (f : Fm) (hf : f.wf) : Calls Tryz.prog 24 #[.pointer (some ⟨g, 0, none⟩), fv f] W fun e w' =>
    e = .returned (.int .i64 (m.ask f).2) ∧ Nf w0 w' g (m.ask f).1 ∧ W.grownBy w' (some g) :=
  (nd_ask h.nd f).mono fun e w' ⟨h1, h2, h3⟩ => ⟨h1, ⟨h2, fine_ask h.fine hf⟩, h3⟩
theorem nf_counts {w0 W : World} {g : Nat} {m : M} (h : Nf w0 W g m) : Calls Tryz.prog 15 #[.pointer (some ⟨g, 0, none⟩)] W fun e w' => e = .returned (.agg #[.int .i64 m.sent, .int .i64 m.got]) ∧ Nf w0 w' g m ∧ Below W.heap.size W w' :=
  (nd_counts h.nd).mono fun e w' ⟨h1, h2, h3⟩ => ⟨h1, ⟨h2, h.fine⟩, h3⟩
theorem nf_new {w0 W : World} (h : Below w0.heap.size w0 W) : Calls Tryz.prog 20 #[] W fun e w' => e = .returned (.pointer (some ⟨W.heap.size, 0, none⟩)) ∧ Nf w0 w' W.heap.size M.new ∧ Below W.heap.size W w' :=
  (nd_new h).mono fun e w' ⟨h1, h2, h3⟩ => ⟨h1, ⟨h2, fine_new⟩, h3⟩
end Go.Proofs.YtpkpnaedacefaaaGreat.MacW
