/- A wire one bit of which is turned, in plain Lean: what a reader meets of noughts, of ones. -/
import Derived.Test.YtpkpnaedacefaaaWirePure
namespace Go.Proofs.Ytpkpnaedacefaaa.WireP
set_option linter.unusedVariables false
set_option linter.unusedSimpArgs false
open Go Go.Proofs.Ytpkpnaedacefaaa.Lib Go.Proofs.Ytpkpnaedacefaaa.Bits Go.Proofs.Ytpkpnaedacefaaa.BitsW Go.Proofs.Ytpkpnaedacefaaa.Frame Go.Proofs.Ytpkpnaedacefaaa.FrameW Go.Proofs.Ytpkpnaedacefaaa.Code Go.Proofs.Ytpkpnaedacefaaa.CodeW Go.Proofs.Ytpkpnaedacefaaa.CodeL Go.Proofs.Ytpkpnaedacefaaa.Mac Go.Proofs.Ytpkpnaedacefaaa.MacW Go.Proofs.Ytpkpnaedacefaaa.WireN Go.Proofs.Ytpkpnaedacefaaa.WireW
/-- What every reader keeps. -/
structure Kr (r : Rd) : Prop where
  tail : r.en = 0 ∨ r.inBits = false
  need : r.need = 0 ∨ (14 ≤ r.b.length ∧ 19 ≤ r.need ∧ (r.b.getD 13 false = true → 39 ≤ r.need))
theorem needL_min {l : List Bool} (h : (needL l).1 ≠ 0) : 14 ≤ l.length ∧ 19 ≤ (needL l).1 ∧ (l.getD 13 false = true → 39 ≤ (needL l).1) := by
  unfold needL at h ⊢
  split at h; · exact absurd rfl h
  next h0 =>
  rw [if_neg h0]
  split at h; · exact absurd rfl h
  next h1 =>
  rw [if_neg h1]
  split at h
  · next h2 =>
    rw [if_pos h2]
    split at h
    · next h3 =>
      rw [if_pos h3]
      split at h; · exact absurd rfl h
      next h4 =>
      rw [if_neg h4]
      split at h
      · next h5 => rw [if_pos h5]; exact ⟨by omega, by decide, fun _ => Nat.le_refl _⟩
      · next h5 => rw [if_neg h5]; exact ⟨by omega, by show 19 ≤ 39 + _; omega, fun _ => by show 39 ≤ 39 + _; omega⟩
    · exact absurd rfl h
  · next h2 =>
    rw [if_neg h2]
    split at h; · exact absurd rfl h
    next h4 =>
    rw [if_neg h4]
    split at h
    · next h5 => rw [if_pos h5]; exact ⟨by omega, by decide, fun e => absurd e h2⟩
    · next h5 => rw [if_neg h5]; exact ⟨by omega, by show 19 ≤ 19 + _; omega, fun e => absurd e h2⟩
theorem getD_snoc {l : List Bool} (c : Bool) {i : Nat} (h : i < l.length) : (l ++ [c]).getD i false = l.getD i false := by
  rw [List.getD_eq_getElem?_getD, List.getD_eq_getElem?_getD, List.getElem?_append_left h]
theorem kr_zero : Kr Rd.zero := ⟨.inl rfl, .inl rfl⟩
theorem kr_push {r : Rd} (h : Kr r) (c : Bool) : Kr (r.push c).1 := by
  unfold Rd.push
  by_cases hin : r.inBits = true ∨ (r.rn = 5 ∧ r.laid = false ∧ r.en = 0)
  · have he : r.en = 0 := by
      rcases h.tail with e | e
      · exact e
      · rcases hin with q | q
        · rw [e] at q; cases q
        · exact q.2.2
    rw [if_pos hin]
    by_cases h5 : r.rn = 5
    · rw [if_pos h5]
      by_cases hc : c = r.rb
      · rw [if_pos hc]; exact h
      · rw [if_neg hc]; exact ⟨.inl he, h.need⟩
    · rw [if_neg h5]
      unfold Rd.add
      simp only
      by_cases hn : r.need ≠ 0
      · rw [if_pos hn]
        refine ⟨.inl he, .inr ?_⟩
        rcases h.need with e | ⟨e1, e2, e3⟩
        · exact absurd e hn
        · refine ⟨by show 14 ≤ (r.b ++ [c]).length; rw [List.length_append]; omega, e2, fun q => e3 ?_⟩
          rw [← getD_snoc c (by omega)]
          exact q
      · rw [if_neg hn]
        by_cases hx : (needL (r.b ++ [c])).2 ≠ 0
        · rw [if_pos hx]
          exact ⟨.inl he, .inl (by simpa using hn)⟩
        · rw [if_neg hx]
          refine ⟨.inl he, ?_⟩
          by_cases h0 : (needL (r.b ++ [c])).1 = 0
          · exact .inl h0
          · exact .inr (needL_min h0)
  · rw [if_neg hin]
    refine ⟨.inr ?_, h.need⟩
    show r.inBits = false
    cases hb : r.inBits
    · rfl
    · exact absurd (.inl hb) hin
theorem kr_all : ∀ (x : List Bool) {r : Rd}, Kr r → Kr (r.all x)
  | [], _, h => h
  | c :: x, _, h => kr_all x (kr_push h c)
theorem len_push (r : Rd) (c : Bool) : (r.push c).1.b.length ≤ r.b.length + 1 := by
  unfold Rd.push
  split
  · split
    · split <;> exact Nat.le_succ _
    · unfold Rd.add
      simp only
      split
      · rw [List.length_append]; exact Nat.le_refl _
      · split <;> (rw [List.length_append]; exact Nat.le_refl _)
  · exact Nat.le_succ _
theorem len_all : ∀ (x : List Bool) (r : Rd), (r.all x).b.length ≤ r.b.length + x.length
  | [], _ => Nat.le_refl _
  | c :: x, r => by
    have h1 := len_all x (r.push c).1
    have h2 := len_push r c
    show ((r.push c).1.all x).b.length ≤ _
    rw [List.length_cons]
    omega
/-- A reader that has met a ones since. -/
structure Jr (a : Nat) (r : Rd) : Prop where
  inv : r.Inv
  kr : Kr r
  en : r.en = 0
  room : r.b.length + 6 ≤ 33 + a ∨ (r.b.length + 6 ≤ 53 + a ∧ 14 ≤ r.b.length ∧ r.b.getD 13 false = true)
  run : (a = 0 ∧ r.rb = false) ∨ (0 < a ∧ r.rb = true ∧ r.rn = a)
theorem Jr.inBits {a : Nat} {r : Rd} (h : Jr a r) (ha : a ≤ 5) : r.inBits = true := by
  unfold Rd.inBits
  rcases h.kr.need with e | ⟨e1, e2, e3⟩
  · rw [e]; rfl
  · have : r.b.length < r.need + 15 := by
      rcases h.room with q | ⟨q1, _, q3⟩
      · omega
      · have := e3 q3; omega
    rw [decide_eq_true this, Bool.or_true]
theorem Jr.push {a : Nat} {r : Rd} (h : Jr a r) (ha : a ≤ 5) : (r.push true).2 ≠ 0 ∨ (a < 5 ∧ Jr (a + 1) (r.push true).1) := by
  by_cases he : (r.push true).2 = 0
  · right
    have hinv := (h.inv.push true he).1
    have hk := kr_push h.kr true
    have hin := h.inBits ha
    have hrn := h.inv.rn
    unfold Rd.push at he hinv hk ⊢
    rw [if_pos (.inl hin)] at he hinv hk ⊢
    by_cases h5 : r.rn = 5
    · rw [if_pos h5] at he hinv hk ⊢
      by_cases hc : true = r.rb
      · rw [if_pos hc] at he; cases he
      · rw [if_neg hc] at he hinv hk ⊢
        have h0 : a = 0 := by
          rcases h.run with ⟨q, _⟩ | ⟨_, q, _⟩
          · exact q
          · exact absurd q.symm hc
        subst h0
        refine ⟨by decide, hinv, hk, h.en, ?_, .inr ⟨by decide, rfl, rfl⟩⟩
        rcases h.room with q | ⟨q1, q2, q3⟩
        · exact .inl (by show r.b.length + 6 ≤ 33 + 1; omega)
        · exact .inr ⟨by show r.b.length + 6 ≤ 53 + 1; omega, q2, q3⟩
    · rw [if_neg h5] at he hinv hk ⊢
      have hrun : (0 < a + 1 ∧ runK r.rn r.rb true = a + 1) ∧ a < 5 := by
        unfold runK
        rcases h.run with ⟨q1, q2⟩ | ⟨q1, q2, q3⟩
        · rw [q2, if_neg (by rintro ⟨_, q⟩; cases q)]; exact ⟨⟨by omega, by omega⟩, by omega⟩
        · rw [q2, if_pos ⟨by omega, rfl⟩]; exact ⟨⟨by omega, by omega⟩, by omega⟩
      have hroom : (r.b ++ [true]).length + 6 ≤ 33 + (a + 1) ∨ ((r.b ++ [true]).length + 6 ≤ 53 + (a + 1) ∧ 14 ≤ (r.b ++ [true]).length ∧ (r.b ++ [true]).getD 13 false = true) := by
        rw [List.length_append]
        rcases h.room with q | ⟨q1, q2, q3⟩
        · exact .inl (by show r.b.length + 1 + 6 ≤ _; omega)
        · exact .inr ⟨by show r.b.length + 1 + 6 ≤ _; omega, by omega, by rw [getD_snoc _ (by omega)]; exact q3⟩
      unfold Rd.add at he hinv hk ⊢
      simp only at he hinv hk ⊢
      by_cases hn : r.need ≠ 0
      · rw [if_pos hn] at he hinv hk ⊢
        exact ⟨hrun.2, hinv, hk, h.en, hroom, .inr ⟨hrun.1.1, rfl, hrun.1.2⟩⟩
      · rw [if_neg hn] at he hinv hk ⊢
        by_cases hx : (needL (r.b ++ [true])).2 ≠ 0
        · rw [if_pos hx] at he; exact absurd he hx
        · rw [if_neg hx] at he hinv hk ⊢
          exact ⟨hrun.2, hinv, hk, h.en, hroom, .inr ⟨hrun.1.1, rfl, hrun.1.2⟩⟩
  · exact .inl he
/-- A reader that has met a noughts since. -/
structure Ir (a : Nat) (r : Rd) : Prop where
  inv : r.Inv
  kr : Kr r
  run : (r.en = 0 ∧ (a = 0 ∨ (r.rb = false ∧ a ≤ r.rn))) ∨ (a = 0 ∧ 1 ≤ r.en ∧ r.en ≤ 8) ∨ (a = 1 ∧ r.en = 2)
theorem Ir.push {a : Nat} {r : Rd} (h : Ir a r) : (r.push false).2 ≠ 0 ∨ (a < 5 ∧ Ir (a + 1) (r.push false).1 ∧ (r.push false).1.en ≤ 8) := by
  by_cases he : (r.push false).2 = 0
  · right
    have hinv := (h.inv.push false he).1
    have hk := kr_push h.kr false
    have hrn := h.inv.rn
    unfold Rd.push at he hinv hk ⊢
    by_cases hin : r.inBits = true ∨ (r.rn = 5 ∧ r.laid = false ∧ r.en = 0)
    · have hen : r.en = 0 := by
        rcases h.kr.tail with e | e
        · exact e
        · rcases hin with q | q
          · rw [e] at q; cases q
          · exact q.2.2
      have hr : a = 0 ∨ (r.rb = false ∧ a ≤ r.rn) := by
        rcases h.run with ⟨_, q⟩ | ⟨_, q, _⟩ | ⟨_, q⟩
        · exact q
        · omega
        · omega
      rw [if_pos hin] at he hinv hk ⊢
      by_cases h5 : r.rn = 5
      · rw [if_pos h5] at he hinv hk ⊢
        by_cases hc : false = r.rb
        · rw [if_pos hc] at he; cases he
        · rw [if_neg hc] at he hinv hk ⊢
          have h0 : a = 0 := by
            rcases hr with q | ⟨q, _⟩
            · exact q
            · exact absurd q.symm hc
          subst h0
          exact ⟨by decide, ⟨hinv, hk, .inl ⟨hen, .inr ⟨rfl, Nat.le_refl _⟩⟩⟩, by show r.en ≤ 8; omega⟩
      · rw [if_neg h5] at he hinv hk ⊢
        have hrun : a + 1 ≤ runK r.rn r.rb false ∧ a < 5 := by
          unfold runK
          rcases hr with q1 | ⟨q2, q3⟩
          · subst q1
            split
            · exact ⟨by omega, by decide⟩
            · exact ⟨by omega, by decide⟩
          · rw [q2]
            by_cases h0 : r.rn > 0
            · rw [if_pos ⟨h0, rfl⟩]; exact ⟨by omega, by omega⟩
            · rw [if_neg (fun q => h0 q.1)]; exact ⟨by omega, by omega⟩
        unfold Rd.add at he hinv hk ⊢
        simp only at he hinv hk ⊢
        by_cases hn : r.need ≠ 0
        · rw [if_pos hn] at he hinv hk ⊢
          exact ⟨hrun.2, ⟨hinv, hk, .inl ⟨hen, .inr ⟨rfl, hrun.1⟩⟩⟩, by show r.en ≤ 8; omega⟩
        · rw [if_neg hn] at he hinv hk ⊢
          by_cases hx : (needL (r.b ++ [false])).2 ≠ 0
          · rw [if_pos hx] at he; exact absurd he hx
          · rw [if_neg hx] at he hinv hk ⊢
            exact ⟨hrun.2, ⟨hinv, hk, .inl ⟨hen, .inr ⟨rfl, hrun.1⟩⟩⟩, by show r.en ≤ 8; omega⟩
    · rw [if_neg hin] at he hinv hk ⊢
      unfold Rd.tail at he hinv hk ⊢
      simp only at he hinv hk ⊢
      by_cases h2 : r.en + 1 = 2
      · have h0 : a = 0 := by
          rcases h.run with ⟨q, _⟩ | ⟨q, _, _⟩ | ⟨_, q⟩
          · omega
          · exact q
          · omega
        subst h0
        exact ⟨by decide, ⟨hinv, hk, .inr (.inr ⟨rfl, h2⟩)⟩, by show r.en + 1 ≤ 8; omega⟩
      · rw [if_neg h2, if_pos trivial] at he
        cases he
  · exact .inl he
theorem stuffL_four : ∀ (l : List Bool) (n : Nat) (b : Bool), n ≤ 4 → 4 * (stuffL n b l).length ≤ 5 * l.length + (n - 1)
  | [], _, _, _ => by simp [stuffL]
  | c :: l, n, b, h => by
    have hr : runK n b c ≤ n + 1 ∧ 1 ≤ runK n b c := by unfold runK; split <;> omega
    rw [stuffL]
    by_cases h5 : runK n b c = 5
    · rw [if_pos h5, List.length_cons, List.length_cons, List.length_cons]
      have := stuffL_four l 1 (!c) (by decide)
      omega
    · rw [if_neg h5, List.length_cons, List.length_cons]
      have := stuffL_four l (runK n b c) c (by omega)
      omega
theorem arb_most {F : Fm} (h : F.Good) : F.arb ≤ 41 ∧ (F.e = false → F.arb ≤ 17) := by
  rw [arb_ok h]
  have := stuffL_four (arbL F.e F.i.toNat F.r) 0 false (by decide)
  rw [arbL_length] at this
  unfold stuff
  constructor
  · split at this <;> omega
  · intro e
    rw [e] at this ⊢
    simp only [Bool.false_eq_true, if_false] at this
    omega
theorem push_b (r : Rd) (c : Bool) : (r.push c).1.b = r.b ∨ (r.push c).1.b = r.b ++ [c] := by
  unfold Rd.push
  split
  · split
    · split <;> exact .inl rfl
    · unfold Rd.add
      simp only
      split
      · exact .inr rfl
      · split <;> exact .inr rfl
  · exact .inl rfl
theorem push_low {r : Rd} (he : r.en = 0) (h : (r.push false).2 = 0) : (r.push false).1.en = 0 ∧ (r.push false).1.rb = false := by
  unfold Rd.push at h ⊢
  by_cases hin : r.inBits = true ∨ (r.rn = 5 ∧ r.laid = false ∧ r.en = 0)
  · rw [if_pos hin] at h ⊢
    by_cases h5 : r.rn = 5
    · rw [if_pos h5] at h ⊢
      by_cases hc : false = r.rb
      · rw [if_pos hc] at h; cases h
      · rw [if_neg hc]; exact ⟨he, rfl⟩
    · rw [if_neg h5]
      unfold Rd.add
      simp only
      split
      · exact ⟨he, rfl⟩
      · split <;> exact ⟨he, rfl⟩
  · rw [if_neg hin] at h
    unfold Rd.tail at h
    simp only at h
    rw [if_neg (by omega), if_pos trivial] at h
    cases h
theorem lose_jr {F : Fm} (hF : F.Good) {j : Nat} (hj : j < F.arb) (he : ((Rd.zero.all (F.ack.take j)).push false).2 = 0) : Jr 0 ((Rd.zero.all (F.ack.take j)).push false).1 := by
  have hr := arb_room hF
  obtain ⟨m1, m2⟩ := arb_most hF
  have ha := f_arb hF
  have hen : (Rd.zero.all (F.ack.take j)).en = 0 := by
    have := rd_en (f_fr hF) ackT j (by rw [ackT_len]; omega)
    show (Rd.zero.all ((stuff F.S ++ ackT).take j)).en = 0
    rw [this]; omega
  obtain ⟨e1, e2⟩ := push_low hen he
  have hlen : (Rd.zero.all (F.ack.take j)).b.length ≤ j := by
    have := len_all (F.ack.take j) Rd.zero
    rw [List.length_take] at this
    have h0 : Rd.zero.b.length = 0 := rfl
    omega
  have hl2 := len_push (Rd.zero.all (F.ack.take j)) false
  refine ⟨((ack_inv hF (by omega)).push false he).1, kr_push (kr_all _ kr_zero) false, e1, ?_, .inl ⟨rfl, e2⟩⟩
  by_cases h27 : ((Rd.zero.all (F.ack.take j)).push false).1.b.length ≤ 27
  · exact .inl (by omega)
  · right
    have hee : F.e = true := by
      cases h : F.e
      · have := m2 h; omega
      · rfl
    refine ⟨by omega, by omega, ?_⟩
    obtain ⟨p, q, k, b, hs, _, hst, _⟩ := stuff_mid (f_fr hF) F.S [] 0 false j rfl (by omega) (by show j < (stuff F.S).length; omega)
    rw [st_zero (f_fr hF)] at hst
    have hst : Rd.zero.all (F.ack.take j) = st (hdr F.e) (bodyL F.e F.i.toNat F.r F.d.data.toList).length p k b := by
      have e : F.ack.take j = (stuff F.S).take j := by unfold Fm.ack; rw [List.take_append_of_le_length (by omega)]
      rw [e]
      exact hst
    have hb : (Rd.zero.all (F.ack.take j)).b = p := by rw [hst]; rfl
    have h13 : p.getD 13 false = true ∧ 14 ≤ p.length := by
      have hpl : 27 ≤ p.length := by rw [hb] at hl2; omega
      obtain ⟨z, hz, _⟩ := S_arb F
      have h1 : F.S[13]? = some true := by
        rw [hz, List.getElem?_append_left (by rw [arbL_length]; split <;> omega), arb_13, hee]
      rw [← hs, List.getElem?_append_left (by omega)] at h1
      exact ⟨by rw [List.getD_eq_getElem?_getD, h1]; rfl, by omega⟩
    rcases push_b (Rd.zero.all (F.ack.take j)) false with e | e
    · rw [e, hb]; exact h13.1
    · rw [e, hb, getD_snoc _ (by omega)]; exact h13.1
/-- A false start. -/
theorem start_jr : Jr 0 (Rd.zero.push false).1 ∧ Ir 1 (Rd.zero.push false).1 := by
  have he : (Rd.zero.push false).2 = 0 := by rfl
  have hi := (Rd.zero_inv.push false he).1
  have hk := kr_push kr_zero false
  exact ⟨⟨hi, hk, rfl, .inl (by decide), .inl ⟨rfl, rfl⟩⟩, ⟨hi, hk, .inl ⟨rfl, .inr ⟨rfl, by decide⟩⟩⟩⟩
/-- A node that sends nothing: w waits in it. -/
structure Bare (w : Option Fm) (m : M) : Prop where
  on : m.on = false
  bits : m.bits = []
  arb : m.arb = 0
  pos : m.pos = 0
  ok : cOk m.sent m.got = true
  s : m.sent ≤ 100
  g : m.got ≤ 100
  held : match w with
    | none => m.waits = false ∧ m.f = Fm.zero
    | some f => m.waits = true ∧ m.f = f
theorem Bare.alike {w : Option Fm} {m m' : M} (h : Bare w m) (h1 : m'.on = m.on) (h2 : m'.bits = m.bits) (h3 : m'.arb = m.arb) (h4 : m'.pos = m.pos) (h5 : m'.sent = m.sent) (h6 : m'.got = m.got) (h7 : m'.waits = m.waits) (h8 : m'.f = m.f) : Bare w m' := by
  obtain ⟨st, left, sent, got, waits, f, on, bits, arb, pos, r⟩ := m
  obtain ⟨st', left', sent', got', waits', f', on', bits', arb', pos', r'⟩ := m'
  simp only at h1 h2 h3 h4 h5 h6 h7 h8
  subst h1 h2 h3 h4 h5 h6 h7 h8
  exact ⟨h.on, h.bits, h.arb, h.pos, h.ok, h.s, h.g, h.held⟩
theorem Bare.rest {m : M} (h : Bare none m) (h0 : m.st = 0) : Rest m := ⟨h0, h.held.1, h.on, h.held.2, h.bits, h.arb, h.pos, h.ok⟩
theorem Rest.bare {q : M} (h : Rest q) (hs : q.sent ≤ 100) (hg : q.got ≤ 100) : Bare none q := ⟨h.on, h.bits, h.arb, h.pos, h.ok, hs, hg, h.waits, h.f⟩
theorem hear_sample {m : M} (h1 : m.st = 1) (h2 : m.on = false) (c : Bool) : m.sample c = m.hears c := by
  unfold M.sample
  rw [if_neg (by rw [h1]; decide), if_pos h1, if_neg (by rw [h2]; decide)]
theorem hear_drive0 {m : M} (h1 : m.st = 1) (h2 : m.on = false) (he : m.r.en = 0) : m.drive = true := by
  unfold M.drive
  rw [if_neg (by rw [h1]; decide), if_pos h1, if_neg (by rw [h2]; decide), he]
  rfl
theorem flag0 (m : M) : flagM m 0 = { m with st := 3, left := 6 } := rfl
/-- A node that hears an error flags. -/
theorem hears_bad {w : Option Fm} {m : M} (hb : Bare w m) (h0 : m.got = 0) {c : Bool} (h : (m.r.push c).2 ≠ 0) : ∃ a, Bare w a ∧ (m.hears c).1 = flagM a 0 := by
  have hg : gotC m.got false = 1 := by rw [h0]; rfl
  have hs := hb.s
  have ho : isOff m.sent = false := by unfold isOff; exact decide_eq_false (by omega)
  refine ⟨{ m with r := (m.r.push c).1, got := gotC m.got false }, ⟨hb.on, hb.bits, hb.arb, hb.pos, gotC_ok hb.ok false, hb.s, by show gotC m.got false ≤ 100; rw [hg]; decide, hb.held⟩, ?_⟩
  unfold M.hears
  rw [if_pos h, if_pos hb.ok]
  unfold M.flags
  rw [if_neg (by rw [show ({ m with r := (m.r.push c).1, got := gotC m.got false } : M).sent = m.sent from rfl, ho]; decide)]
  rfl
theorem hears_on {m : M} {c : Bool} (h : (m.r.push c).2 = 0) (he : (m.r.push c).1.en ≤ 8) : (m.hears c).1 = { m with r := (m.r.push c).1 } := by
  unfold M.hears
  rw [if_neg (by rw [h]; decide), if_pos (by omega)]
/-- Neither is passive. -/
theorem bare_act {w : Option Fm} {m : M} (h : Bare w m) : isPas m.sent m.got = false := by
  have hs := h.s
  have hg := h.g
  unfold isPas
  rw [decide_eq_false (show ¬ 128 ≤ m.sent by omega), decide_eq_false (show ¬ 128 ≤ m.got by omega)]
  cases isOff m.sent <;> rfl
/-- A wire of three, the bit at_ of which is turned: node 0, and the two others. -/
inductive Ph (F : Fm) (at_ i : Nat) (A B : M) : Prop
  | before : i ≤ at_ → A = oneS F i → B = oneL F i → Ph F at_ i A B
  | late : at_ = 3 → 4 ≤ i → A = oneS F (i - 1) → B = oneL F (i - 1) → Ph F at_ i A B
  | ones (a : Nat) (w : Option Fm) : i = at_ + 1 + a → a ≤ 5 → A.st = 1 → B.st = 1 → A.r = B.r → Jr a B.r → Bare w A → Bare none B → A.got = 0 → B.got = 0 → (w = none ∨ (w = some F ∧ at_ < 3)) → Ph F at_ i A B
  | noughts (u : Nat) (a : M) : i = at_ + 1 + u → u ≤ 5 → Bare none a → A = flagM a u → Bare none B → B.got = 0 → ((B.st = 1 ∧ Ir u B.r) ∨ (u = 0 ∧ B.st = 6)) → Ph F at_ i A B
  | flags (u v : Nat) (a b : M) (w : Option Fm) : u ≤ 6 → v ≤ 6 → i + (6 - v) ≤ at_ + 13 → i + (6 - u) ≤ at_ + 13 → at_ < i → Bare w a → Bare none b → A = flagM a u → B = flagM b v → (w = none ∨ (w = some F ∧ at_ < 3)) → Ph F at_ i A B
  | recover (k : Nat) (a b : M) (w : Option Fm) : k ≤ 10 → i ≤ at_ + 13 + k → at_ < i → Bare w a → Bare none b → A = recM a k → B = recM b k → (w = none ∨ (w = some F ∧ at_ < 3)) → Ph F at_ i A B
  | sends (j : Nat) (qa qb : M) : at_ < 3 → j ≤ F.ack.length → i ≤ at_ + 24 + j → at_ < i → Rest qa → Rest qb → A = winM qa F j → B = lisM qb F j → Ph F at_ i A B
  | pause (k : Nat) (a b : M) : at_ < 3 → k ≤ 2 → i ≤ at_ + 25 + F.ack.length + k → at_ < i → Rest { a with st := 0, left := 0 } → Rest { b with st := 0, left := 0 } → A = pauM a k → B = pauM b k → Ph F at_ i A B
  | rest : at_ < i → Rest A → Rest B → Ph F at_ i A B
theorem ph_start (F : Fm) (at_ : Nat) : Ph F at_ 0 (oneS F 0) (oneL F 0) := .before (Nat.zero_le _) rfl rfl
theorem one_rest {F : Fm} {i : Nat} (h : 6 + F.ack.length ≤ i) : Rest (oneS F i) ∧ Rest (oneL F i) := by
  have e0 : oneS F i = winR idleM F := by unfold oneS; rw [if_neg (by omega), if_neg (by omega), pau_end _ (by omega)]; rfl
  have e1 : oneL F i = lisR idleM F := by unfold oneL; rw [if_neg (by omega), if_neg (by omega), pau_end _ (by omega)]; rfl
  rw [e0, e1]
  exact ⟨win_rest rest_idle F, lis_rest rest_idle F⟩
theorem ph_end {F : Fm} (hF : F.Good) {at_ : Nat} {A B : M} (h : Ph F at_ 400 A B) (ha : at_ ≤ 255) : Rest A ∧ Rest B := by
  have hl := ack_short hF
  cases h with
  | before h => omega
  | late _ _ h1 h2 => rw [h1, h2]; exact one_rest (by omega)
  | ones a w h => omega
  | noughts u a h => omega
  | flags u v a b w _ _ h => omega
  | recover k a b w _ h => omega
  | sends j qa qb _ _ h => omega
  | pause k a b _ _ h => omega
  | rest _ h1 h2 => exact ⟨h1, h2⟩
theorem flag_low {w : Option Fm} {m : M} (h : Bare w m) {i : Nat} (hi : i < 6) : (flagM m i).drive = false := by rw [flag_drive m hi]; exact bare_act h
/-- Flags: as long as one of them is not done the wire is 0. -/
theorem flags_step {F : Fm} {at_ i : Nat} {w : Option Fm} {a b : M} {u v : Nat} (hu : u ≤ 6) (hv : v ≤ 6) (h1 : i + (6 - v) ≤ at_ + 13) (h2 : i + (6 - u) ≤ at_ + 13) (ha : Bare w a) (hb : Bare none b) (hl : at_ < i) (hw : w = none ∨ (w = some F ∧ at_ < 3)) (huv : u < 6 ∨ v < 6) :
    ((flagM a u).drive && (flagM b v).drive) = false ∧ Ph F at_ (i + 1) ((flagM a u).sample false).1 ((flagM b v).sample false).1 := by
  have hd : ((flagM a u).drive && (flagM b v).drive) = false := by
    rcases huv with q | q
    · rw [flag_low ha q]; rfl
    · rw [flag_low hb q, Bool.and_false]
  have st : ∀ (m : M) (x : Nat), x ≤ 6 → ((flagM m x).sample false).1 = flagM m (min (x + 1) 6) := by
    intro m x hx
    by_cases h6 : x < 6
    · rw [flag_step m h6, Nat.min_eq_left (by omega)]
    · obtain rfl : x = 6 := by omega
      rw [flag_rec, rec_low, Nat.min_eq_right (by omega)]
      rfl
  refine ⟨hd, ?_⟩
  rw [st a u hu, st b v hv]
  exact .flags (min (u + 1) 6) (min (v + 1) 6) a b w (by omega) (by omega) (by omega) (by omega) (by omega) ha hb rfl rfl hw
/-- Recovering: the wire is 1. -/
theorem recover_step {F : Fm} (hF : F.Good) {at_ i : Nat} {w : Option Fm} {a b : M} {k : Nat} (hk : k ≤ 10) (hi : i ≤ at_ + 13 + k) (hl : at_ < i) (ha : Bare w a) (hb : Bare none b) (hw : w = none ∨ (w = some F ∧ at_ < 3)) :
    ((recM a k).drive && (recM b k).drive) = true ∧ Ph F at_ (i + 1) ((recM a k).sample true).1 ((recM b k).sample true).1 := by
  refine ⟨by rw [rec_drive a (by omega), rec_drive b (by omega)]; rfl, ?_⟩
  rw [rec_step a (by omega), rec_step b (by omega)]
  by_cases h10 : k < 10
  · exact .recover (k + 1) a b w (by omega) (by omega) (by omega) ha hb rfl rfl hw
  · obtain rfl : k = 10 := by omega
    rw [rec_eq3 (by omega), rec_eq3 (by omega)]
    have rb : Rest { b with st := 0, left := 0 } := (hb.alike (m' := { b with st := 0, left := 0 }) rfl rfl rfl rfl rfl rfl rfl rfl).rest rfl
    rcases hw with rfl | ⟨rfl, h3⟩
    · exact .rest (by omega) ((ha.alike (m' := { a with st := 0, left := 0 }) rfl rfl rfl rfl rfl rfl rfl rfl).rest rfl) rb
    · obtain ⟨h1, h2⟩ := ha.held
      refine .sends 0 { a with st := 0, left := 0, waits := false, f := Fm.zero } { b with st := 0, left := 0 } h3 (Nat.zero_le _) (by omega) (by omega) ⟨rfl, rfl, ha.on, rfl, ha.bits, ha.arb, ha.pos, ha.ok⟩ rb ?_ rfl
      have hl := ack_long hF
      have hon := ha.on
      unfold winM sqM
      rw [if_pos (by omega), if_pos rfl]
      obtain ⟨st, left, sent, got, waits, f, on, bits, arb, pos, r⟩ := a
      simp only at h1 h2 hon
      subst h1 h2 hon
      rfl
theorem rest_step {F : Fm} {at_ i : Nat} {A B : M} (hl : at_ < i) (hA : Rest A) (hB : Rest B) : (A.drive && B.drive) = true ∧ Ph F at_ (i + 1) (A.sample true).1 (B.sample true).1 := by
  rw [rest_drive hA, rest_drive hB, rest_sample hA, rest_sample hB]
  exact ⟨rfl, .rest (by omega) hA hB⟩
theorem pause_step {F : Fm} {at_ i : Nat} {a b : M} {k : Nat} (h3 : at_ < 3) (hk : k ≤ 2) (hi : i ≤ at_ + 25 + F.ack.length + k) (hl : at_ < i) (ha : Rest { a with st := 0, left := 0 }) (hb : Rest { b with st := 0, left := 0 }) :
    ((pauM a k).drive && (pauM b k).drive) = true ∧ Ph F at_ (i + 1) ((pauM a k).sample true).1 ((pauM b k).sample true).1 := by
  refine ⟨by rw [pau_drive a k (by omega), pau_drive b k (by omega)]; rfl, ?_⟩
  rw [pau_step a k (by omega), pau_step b k (by omega)]
  by_cases h2 : k < 2
  · exact .pause (k + 1) a b h3 (by omega) (by omega) (by omega) ha hb rfl rfl
  · obtain rfl : k = 2 := by omega
    rw [pau_end a (by omega), pau_end b (by omega)]
    exact .rest (by omega) ha hb
theorem sends_step {F : Fm} (hF : F.Good) {at_ i : Nat} {qa qb : M} {j : Nat} (h3 : at_ < 3) (hj : j < F.ack.length) (hi : i ≤ at_ + 24 + j) (hl : at_ < i) (ha : Rest qa) (hb : Rest qb) :
    ((winM qa F j).drive && (lisM qb F j).drive) = bitAt F.ack j ∧ Ph F at_ (i + 1) ((winM qa F j).sample (bitAt F.ack j)).1 ((lisM qb F j).sample (bitAt F.ack j)).1 := by
  refine ⟨?_, ?_⟩
  · rw [win_drive hF hj, lis_drive hF hb hj]
    by_cases h9 : j + 9 = F.ack.length
    · rw [if_pos h9, decide_eq_true h9, ack_at9 h9]; rfl
    · rw [if_neg h9, decide_eq_false h9]; cases bitAt F.ack j <;> rfl
  · rw [win_step hF hj, lis_step hF hb hj]
    exact .sends (j + 1) qa qb h3 (by omega) (by omega) (by omega) ha hb rfl rfl
theorem ones_step {F : Fm} {at_ i : Nat} {A B : M} {a : Nat} {w : Option Fm} (hi : i = at_ + 1 + a) (ha : a ≤ 5) (h1 : A.st = 1) (h2 : B.st = 1) (hr : A.r = B.r) (hj : Jr a B.r) (hA : Bare w A) (hB : Bare none B) (g1 : A.got = 0) (g2 : B.got = 0) (hw : w = none ∨ (w = some F ∧ at_ < 3)) :
    (A.drive && B.drive) = true ∧ Ph F at_ (i + 1) (A.sample true).1 (B.sample true).1 := by
  refine ⟨by rw [hear_drive0 h1 hA.on (by rw [hr]; exact hj.en), hear_drive0 h2 hB.on hj.en]; rfl, ?_⟩
  rw [hear_sample h1 hA.on, hear_sample h2 hB.on]
  by_cases he : (B.r.push true).2 = 0
  · rcases hj.push ha with q | ⟨q1, q2⟩
    · exact absurd he q
    · rw [hears_on (m := A) (by rw [hr]; exact he) (by rw [hr, q2.en]; decide), hears_on he (by rw [q2.en]; decide)]
      exact .ones (a + 1) w (by omega) (by omega) h1 h2 (by show (A.r.push true).1 = (B.r.push true).1; rw [hr]) q2 (hA.alike rfl rfl rfl rfl rfl rfl rfl rfl) (hB.alike rfl rfl rfl rfl rfl rfl rfl rfl) g1 g2 hw
  · obtain ⟨x, b1, e1⟩ := hears_bad hA g1 (c := true) (by rw [hr]; exact he)
    obtain ⟨y, b2, e2⟩ := hears_bad hB g2 (c := true) he
    rw [e1, e2]
    exact .flags 0 0 x y w (by decide) (by decide) (by omega) (by omega) (by omega) b1 b2 rfl rfl hw
theorem noughts_step {F : Fm} {at_ i : Nat} {B : M} {u : Nat} {a : M} (hi : i = at_ + 1 + u) (hu : u ≤ 5) (ha : Bare none a) (hB : Bare none B) (g2 : B.got = 0) (hc : (B.st = 1 ∧ Ir u B.r) ∨ (u = 0 ∧ B.st = 6)) :
    ((flagM a u).drive && B.drive) = false ∧ Ph F at_ (i + 1) ((flagM a u).sample false).1 (B.sample false).1 := by
  refine ⟨by rw [flag_low ha (by omega)]; rfl, ?_⟩
  rw [flag_step a (by omega)]
  rcases hc with ⟨h2, hr⟩ | ⟨rfl, h6⟩
  · rw [hear_sample h2 hB.on]
    by_cases he : (B.r.push false).2 = 0
    · rcases hr.push with q | ⟨q1, q2, q3⟩
      · exact absurd he q
      · rw [hears_on he q3]
        exact .noughts (u + 1) a (by omega) (by omega) ha rfl (hB.alike rfl rfl rfl rfl rfl rfl rfl rfl) g2 (.inl ⟨h2, q2⟩)
    · obtain ⟨y, b2, e2⟩ := hears_bad hB g2 (c := false) he
      rw [e2]
      exact .flags (u + 1) 0 a y none (by omega) (by decide) (by omega) (by omega) (by omega) ha b2 rfl rfl (.inl rfl)
  · have hs : B.sample false = B.begins false := by
      unfold M.sample
      rw [if_neg (by omega), if_neg (by omega), if_neg (by omega), if_neg (by omega), if_neg (by omega), if_neg (by omega), if_pos h6, if_neg (by decide)]
    rw [hs]
    exact .noughts 1 a (by omega) (by decide) ha rfl (hB.alike (m' := (B.begins false).1) rfl rfl rfl rfl rfl rfl rfl rfl) g2 (.inl ⟨rfl, start_jr.2⟩)
theorem idle_sample {m : M} (h0 : m.st = 0) : m.sample true = (m, []) := by
  unfold M.sample
  rw [if_pos h0, if_pos rfl]
theorem pause_low {m : M} (h6 : m.st = 6) : m.sample false = m.begins false := by
  unfold M.sample
  rw [if_neg (by omega), if_neg (by omega), if_neg (by omega), if_neg (by omega), if_neg (by omega), if_neg (by omega), if_pos h6, if_neg (by decide)]
theorem idle_low {m : M} (h0 : m.st = 0) (hw : m.waits = false) : m.sample false = m.begins false := by
  unfold M.sample
  rw [if_pos h0, if_neg (by decide), hw]
/-- A false start of both. -/
theorem start_ph {F : Fm} {at_ : Nat} {A B : M} {w : Option Fm} (hA : Bare w A) (hB : Bare none B) (g1 : A.got = 0) (g2 : B.got = 0) (e1 : A.sample false = A.begins false) (e2 : B.sample false = B.begins false) (hw : w = none ∨ (w = some F ∧ at_ < 3)) :
    Ph F at_ (at_ + 1) (A.sample false).1 (B.sample false).1 := by
  rw [e1, e2]
  exact .ones 0 w rfl (by decide) rfl rfl rfl start_jr.1 (hA.alike (m' := (A.begins false).1) rfl rfl rfl rfl rfl rfl rfl rfl) (hB.alike (m' := (B.begins false).1) rfl rfl rfl rfl rfl rfl rfl rfl) g1 g2 hw
theorem bare_idle : Bare none idleM := ⟨rfl, rfl, rfl, rfl, rfl, by decide, by decide, rfl, rfl⟩
theorem fails_flag (F f : Fm) (j : Nat) (e : Int) : ((sendM idleM F j).fails f e).1 = flagM { (sendM idleM F j).done with sent := 8 } 0 := by rfl
theorem bare_failed (F : Fm) (j : Nat) : Bare none { (sendM idleM F j).done with sent := 8 } := ⟨rfl, rfl, rfl, rfl, by rfl, by show (8 : Int) ≤ 100; decide, by show (0 : Int) ≤ 100; decide, rfl, rfl⟩
theorem bare_hear (F : Fm) (j : Nat) : Bare none (hearM idleM F j) := ⟨rfl, rfl, rfl, rfl, by rfl, by show (0 : Int) ≤ 100; decide, by show (0 : Int) ≤ 100; decide, rfl, rfl⟩
theorem hear_lost (F : Fm) (j : Nat) : (sendM idleM F j).done = hearM idleM F j := rfl
/-- A listener that sees the turned bit. -/
theorem lis_turned {F : Fm} (hF : F.Good) {j : Nat} (h1 : 1 ≤ j) (hj : j < F.ack.length) :
    (∃ b, Bare none b ∧ ((lisM idleM F j).sample (!(bitAt F.ack j))).1 = flagM b 0) ∨
    (∃ B, ((lisM idleM F j).sample (!(bitAt F.ack j))).1 = B ∧ Bare none B ∧ B.got = 0 ∧ ((B.st = 1 ∧ Ir 0 B.r) ∨ B.st = 6)) := by
  have hl := ack_long hF
  have hal := ack_len F
  by_cases hlast : j + 1 = F.ack.length
  · right
    have e0 : lisM idleM F j = hrM (gotD idleM) F j := by unfold lisM; rw [if_neg (by omega), if_neg (by omega)]
    rw [e0, hr_done hF hlast, hr_end (by omega)]
    exact ⟨_, rfl, ⟨rfl, rfl, rfl, rfl, by rfl, by show (0 : Int) ≤ 100; decide, by show gotC 0 true ≤ 100; decide, rfl, rfl⟩, by rfl, .inr rfl⟩
  · have e0 : lisM idleM F j = hearM idleM F j := by unfold lisM; rw [if_neg (by omega), if_pos (by omega), hr_mid (by omega)]
    rw [e0, hear_sample rfl rfl]
    by_cases he : ((Rd.zero.all (F.ack.take j)).push (!(bitAt F.ack j))).2 = 0
    · right
      have hen : (Rd.zero.all (F.ack.take j)).en = j - (stuff F.S).length := rd_en (f_fr hF) ackT j (by rw [ackT_len]; omega)
      have hj3 : j + 3 ≤ F.ack.length := by
        by_cases h2 : j + 2 = F.ack.length
        · exfalso
          obtain ⟨k, b, ld, hk, e⟩ := rd_fin (f_fr hF) ackT j (by omega) (by rw [ackT_len]; omega)
          have e : Rd.zero.all (F.ack.take j) = _ := e
          have hb : bitAt F.ack j = true := by
            have h8 : j - (stuff F.S).length = 8 := by omega
            show bitAt (stuff F.S ++ ackT) j = true
            unfold bitAt
            rw [List.getD_eq_getElem?_getD, List.getElem?_append_right (by omega), h8]
            rfl
          rw [e, hb, fin_push (f_fr hF) k b _ ld hk] at he
          simp only at he
          rw [if_neg (by omega), if_pos (by rfl)] at he
          cases he
        · omega
      obtain ⟨p1, p2⟩ := (ack_inv hF (Nat.le_of_lt hj)).push _ he
      have he8 : ((Rd.zero.all (F.ack.take j)).push (!(bitAt F.ack j))).1.en ≤ 8 := by omega
      rw [hears_on (m := hearM idleM F j) he he8]
      refine ⟨_, rfl, (bare_hear F j).alike rfl rfl rfl rfl rfl rfl rfl rfl, rfl, .inl ⟨rfl, p1, kr_push (kr_all _ kr_zero) _, ?_⟩⟩
      by_cases h0 : ((Rd.zero.all (F.ack.take j)).push (!(bitAt F.ack j))).1.en = 0
      · exact .inl ⟨h0, .inl rfl⟩
      · exact .inr (.inl ⟨rfl, by show 1 ≤ ((Rd.zero.all (F.ack.take j)).push (!(bitAt F.ack j))).1.en; omega, he8⟩)
    · left
      exact hears_bad (bare_hear F j) rfl he
/-- The turned bit within the frame. -/
theorem turn_frame {F : Fm} (hF : F.Good) {at_ j : Nat} (h1 : 1 ≤ j) (hj : j < F.ack.length) :
    Ph F at_ (at_ + 1) ((winM idleM F j).sample (!(bitAt F.ack j))).1 ((lisM idleM F j).sample (!(bitAt F.ack j))).1 := by
  have hl := ack_long hF
  have eA : winM idleM F j = sendM idleM F j := by unfold winM sqM; rw [if_pos hj, if_neg (by omega)]
  have o : OnOk (sendM idleM F j) := ⟨rfl, rfl, rfl, rfl, h1, hj, rfl⟩
  have hs : ∀ c, (sendM idleM F j).sample c = (sendM idleM F j).sends c := by
    intro c
    unfold M.sample
    rw [if_neg (by show ¬ (1 : Int) = 0; decide), if_pos (by show (1 : Int) = 1; rfl), if_pos (by show true = true; rfl)]
  have hbit : F.ack[j]'hj = bitAt F.ack j := (bitAt_eq F.ack j hj).symm
  -- the sender fails
  have failed : ∀ e, Ph F at_ (at_ + 1) ((sendM idleM F j).fails F e).1 ((lisM idleM F j).sample (!(bitAt F.ack j))).1 := by
    intro e
    rw [fails_flag]
    rcases lis_turned hF h1 hj with ⟨b, b1, b2⟩ | ⟨B, b1, b2, b3, b4⟩
    · rw [b2]
      exact .flags 0 0 _ b none (by decide) (by decide) (by omega) (by omega) (by omega) (bare_failed F j) b1 rfl rfl (.inl rfl)
    · rw [b1]
      exact .noughts 0 _ rfl (by decide) (bare_failed F j) rfl b2 b3 (b4.imp id (fun q => ⟨rfl, q⟩))
  rw [eA, hs]
  rcases on_cases (m := sendM idleM F j) hF o (!(bitAt F.ack j)) with ⟨⟨c1, c2, c3⟩, k⟩ | ⟨_, _, k⟩ | ⟨_, _, _, k⟩ | ⟨k, _⟩ | ⟨k, _⟩
  · have c3 : j < F.arb := c3
    have hr := arb_room hF
    have e0 : lisM idleM F j = hearM idleM F j := by unfold lisM; rw [if_neg (by omega), if_pos (by omega), hr_mid (by omega)]
    rw [k, hear_lost, e0, hear_sample rfl rfl, c1]
    show Ph F at_ (at_ + 1) ((hearM idleM F j).hears false).1 ((hearM idleM F j).hears false).1
    by_cases he : ((Rd.zero.all (F.ack.take j)).push false).2 = 0
    · have hj := lose_jr hF c3 he
      rw [hears_on (m := hearM idleM F j) he (by show ((Rd.zero.all (F.ack.take j)).push false).1.en ≤ 8; rw [hj.en]; decide)]
      exact .ones 0 none rfl (by decide) rfl rfl rfl hj ((bare_hear F j).alike rfl rfl rfl rfl rfl rfl rfl rfl) ((bare_hear F j).alike rfl rfl rfl rfl rfl rfl rfl rfl) rfl rfl (.inl rfl)
    · obtain ⟨b, b1, b2⟩ := hears_bad (bare_hear F j) rfl he
      rw [b2]
      exact .flags 0 0 b b none (by decide) (by decide) (by omega) (by omega) (by omega) b1 b1 rfl rfl (.inl rfl)
  · rw [k]; exact failed 71
  · rw [k]; exact failed 70
  · have k : (!(bitAt F.ack j)) = F.ack[j]'hj := k
    rw [hbit] at k
    cases h : bitAt F.ack j <;> rw [h] at k <;> cases k
  · have k : (!(bitAt F.ack j)) = F.ack[j]'hj := k
    rw [hbit] at k
    cases h : bitAt F.ack j <;> rw [h] at k <;> cases k
theorem pau_st (m : M) {k : Nat} (h : k < 3) : (pauM m k).st = 6 := by unfold pauM; rw [if_pos h]
theorem bare_pau {w : Option Fm} {m : M} (h : Bare w m) (k : Nat) : Bare w (pauM m k) := by
  unfold pauM
  split <;> exact h.alike rfl rfl rfl rfl rfl rfl rfl rfl
/-- The bit at_ itself. -/
theorem turn_at {F : Fm} (hF : F.Good) (at_ : Nat) : Ph F at_ (at_ + 1) ((oneS F at_).sample (!(oneC F at_))).1 ((oneL F at_).sample (!(oneC F at_))).1 := by
  have hl := ack_long hF
  by_cases h1 : at_ < 3
  · have e0 : oneS F at_ = pauM (askNew F) at_ := if_pos h1
    have e1 : oneL F at_ = pauM M.new at_ := if_pos h1
    have ec : oneC F at_ = true := if_pos h1
    have bA : Bare (some F) (pauM (askNew F) at_) := bare_pau (show Bare (some F) (askNew F) from ⟨rfl, rfl, rfl, rfl, by rfl, by show (0 : Int) ≤ 100; decide, by show (0 : Int) ≤ 100; decide, rfl, rfl⟩) _
    have bB : Bare none (pauM M.new at_) := bare_pau (show Bare none M.new from ⟨rfl, rfl, rfl, rfl, by rfl, by show (0 : Int) ≤ 100; decide, by show (0 : Int) ≤ 100; decide, rfl, rfl⟩) _
    rw [e0, e1, ec]
    exact start_ph bA bB (by unfold pauM; rw [if_pos h1]; rfl) (by unfold pauM; rw [if_pos h1]; rfl) (pause_low (pau_st _ h1)) (pause_low (pau_st _ h1)) (.inr ⟨rfl, h1⟩)
  · by_cases h2 : at_ < 3 + F.ack.length
    · have e0 : oneS F at_ = winM idleM F (at_ - 3) := by unfold oneS; rw [if_neg h1, if_pos h2]
      have e1 : oneL F at_ = lisM idleM F (at_ - 3) := by unfold oneL; rw [if_neg h1, if_pos h2]
      have ec : oneC F at_ = bitAt F.ack (at_ - 3) := by unfold oneC; rw [if_neg h1, if_pos h2]
      rw [ec]
      by_cases h3 : at_ = 3
      · subst h3
        have hb : bitAt F.ack (3 - 3) = false := by rw [bitAt_eq F.ack 0 (by omega), ack_get F (by omega)]
        rw [hb]
        have q0 : (oneS F 3).st = 0 := by rw [e0]; unfold winM sqM; rw [if_pos (by omega), if_pos rfl]
        have q1 : (oneL F 3).st = 0 := by rw [e1]; rfl
        refine .late rfl (by decide) ?_ ?_
        · show ((oneS F 3).sample true).1 = _
          rw [idle_sample q0]
        · show ((oneL F 3).sample true).1 = _
          rw [idle_sample q1]
      · rw [e0, e1]
        exact turn_frame hF (by omega) (by omega)
    · have e0 : oneS F at_ = pauM (sqEnd idleM F) (at_ - 3 - F.ack.length) := by unfold oneS; rw [if_neg h1, if_neg h2]
      have e1 : oneL F at_ = pauM (hrM (gotD idleM) F F.ack.length) (at_ - 3 - F.ack.length) := by unfold oneL; rw [if_neg h1, if_neg h2]
      have ec : oneC F at_ = true := by unfold oneC; rw [if_neg h1, if_neg h2]
      rw [e0, e1, ec]
      have rA : Rest (winR idleM F) := win_rest rest_idle F
      have rB : Rest (lisR idleM F) := lis_rest rest_idle F
      have cA := win_counts rest_idle F
      have cB := lis_counts idleM F
      have bA : Bare none (sqEnd idleM F) := (rA.bare (by rw [cA.1]; decide) (by rw [cA.2]; decide)).alike rfl rfl rfl rfl rfl rfl rfl rfl
      have bB : Bare none (hrM (gotD idleM) F F.ack.length) := (rB.bare (by rw [cB.1]; decide) (by rw [cB.2]; decide)).alike rfl rfl rfl rfl rfl rfl rfl rfl
      have gA : (sqEnd idleM F).got = 0 := cA.2
      have gB : (hrM (gotD idleM) F F.ack.length).got = 0 := cB.2
      obtain ⟨k, hk⟩ : ∃ k, k = at_ - 3 - F.ack.length := ⟨_, rfl⟩
      rw [← hk]
      by_cases h3 : k < 3
      · exact start_ph (bare_pau bA _) (bare_pau bB _) (by unfold pauM; rw [if_pos h3]; exact gA) (by unfold pauM; rw [if_pos h3]; exact gB) (pause_low (pau_st _ h3)) (pause_low (pau_st _ h3)) (.inl rfl)
      · have eA : (pauM (sqEnd idleM F) k).st = 0 ∧ (pauM (sqEnd idleM F) k).waits = false := by rw [pau_end _ (by omega)]; exact ⟨rfl, bA.held.1⟩
        have eB : (pauM (hrM (gotD idleM) F F.ack.length) k).st = 0 ∧ (pauM (hrM (gotD idleM) F F.ack.length) k).waits = false := by rw [pau_end _ (by omega)]; exact ⟨rfl, bB.held.1⟩
        exact start_ph (bare_pau bA _) (bare_pau bB _) (by unfold pauM; rw [if_neg h3]; exact gA) (by unfold pauM; rw [if_neg h3]; exact gB) (idle_low eA.1 eA.2) (idle_low eB.1 eB.2) (.inl rfl)
theorem one_and {F : Fm} (hF : F.Good) (i : Nat) : ((oneS F i).drive && (oneL F i).drive) = oneC F i := by
  cases h : oneC F i
  · rcases one_lo hF i h with e | e
    · rw [e]; rfl
    · rw [e, Bool.and_false]
  · obtain ⟨e1, e2⟩ := one_hi hF i h
    rw [e1, e2]; rfl
/-- A bit time. -/
theorem ph_step {F : Fm} (hF : F.Good) {at_ i : Nat} {A B : M} (h : Ph F at_ i A B) : Ph F at_ (i + 1) (A.sample ((A.drive && B.drive) != (i == at_))).1 (B.sample ((A.drive && B.drive) != (i == at_))).1 := by
  have hl := ack_long hF
  have ne : at_ < i → (i == at_) = false := fun q => by simp; omega
  have fin : ∀ {c : Bool}, at_ < i → (A.drive && B.drive) = c ∧ Ph F at_ (i + 1) (A.sample c).1 (B.sample c).1 → Ph F at_ (i + 1) (A.sample ((A.drive && B.drive) != (i == at_))).1 (B.sample ((A.drive && B.drive) != (i == at_))).1 := by
    intro c q ⟨q1, q2⟩
    rw [ne q, q1, Bool.bne_false]
    exact q2
  cases h with
  | before h0 h1 h2 =>
    subst h1 h2
    rw [one_and hF i]
    by_cases he : i = at_
    · subst he
      rw [beq_self_eq_true]
      have := turn_at hF i
      rw [show (oneC F i != true) = !(oneC F i) by cases oneC F i <;> rfl]
      exact this
    · rw [show (i == at_) = false by simp [he], Bool.bne_false, oneS_step hF i, oneL_step hF i]
      exact .before (by omega) rfl rfl
  | late h0 h1 h2 h3 =>
    subst h2 h3
    rw [ne (by omega), one_and hF, Bool.bne_false, oneS_step hF, oneL_step hF]
    exact .late h0 (by omega) (by rw [show i + 1 - 1 = i - 1 + 1 by omega]) (by rw [show i + 1 - 1 = i - 1 + 1 by omega])
  | ones a w h0 h1 h2 h3 h4 h5 h6 h7 h8 h9 h10 => exact fin (by omega) (ones_step h0 h1 h2 h3 h4 h5 h6 h7 h8 h9 h10)
  | noughts u a h0 h1 h2 h3 h4 h5 h6 =>
    subst h3
    exact fin (by omega) (noughts_step h0 h1 h2 h4 h5 h6)
  | flags u v a b w h0 h1 h2 h3 h4 h5 h6 h7 h8 h9 =>
    subst h7 h8
    by_cases huv : u < 6 ∨ v < 6
    · exact fin h4 (flags_step h0 h1 h2 h3 h5 h6 h4 h9 huv)
    · obtain rfl : u = 6 := by omega
      obtain rfl : v = 6 := by omega
      exact fin h4 (recover_step hF (k := 0) (by decide) (by omega) h4 h5 h6 h9)
  | recover k a b w h0 h1 h2 h3 h4 h5 h6 h7 =>
    subst h5 h6
    exact fin h2 (recover_step hF h0 h1 h2 h3 h4 h7)
  | sends j qa qb h0 h1 h2 h3 h4 h5 h6 h7 =>
    subst h6 h7
    by_cases hj : j < F.ack.length
    · exact fin h3 (sends_step hF h0 hj h2 h3 h4 h5)
    · obtain rfl : j = F.ack.length := by omega
      rw [win_pau qa hF, lis_pau qb hF]
      have r1 := win_rest h4 F
      have r2 := lis_rest h5 F
      have := pause_step (F := F) (i := i) (a := sqEnd qa F) (b := hrM (gotD qb) F F.ack.length) (k := 0) h0 (by decide) (by omega) h3 r1 r2
      rw [win_pau qa hF, lis_pau qb hF] at fin
      exact fin h3 this
  | pause k a b h0 h1 h2 h3 h4 h5 h6 h7 =>
    subst h6 h7
    exact fin h3 (pause_step h0 h1 h2 h3 h4 h5)
  | rest h0 h1 h2 => exact fin h0 (rest_step h0 h1 h2)
end Go.Proofs.Ytpkpnaedacefaaa.WireP
