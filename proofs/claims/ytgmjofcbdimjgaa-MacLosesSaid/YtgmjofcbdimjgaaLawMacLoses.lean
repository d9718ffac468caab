/- MacLoses (layer 7): who drives a 1 within its arbitration and sees a 0 goes on as a listener, and gets the other one's frame. Conditions: none beyond the types of the arguments; what is no frame, and frames alike in identifier, are let pass. -/
import Derived.Test.YtgmjofcbdimjgaaMacKnown
import Derived.Test.YtgmjofcbdimjgaaMacEvs
import Derived.Test.YtgmjofcbdimjgaaMacTwo
namespace Go.Proofs.Ytgmjofcbdimjgaa.MacL
set_option linter.unusedVariables false
set_option linter.unusedSimpArgs false
open Go Go.RowKit Go.Proofs.Ytgmjofcbdimjgaa.Lib Go.Proofs.Ytgmjofcbdimjgaa.Bits Go.Proofs.Ytgmjofcbdimjgaa.BitsW Go.Proofs.Ytgmjofcbdimjgaa.StuffW Go.Proofs.Ytgmjofcbdimjgaa.Frame Go.Proofs.Ytgmjofcbdimjgaa.FrameW Go.Proofs.Ytgmjofcbdimjgaa.Code Go.Proofs.Ytgmjofcbdimjgaa.CodeW Go.Proofs.Ytgmjofcbdimjgaa.CodeL Go.Proofs.Ytgmjofcbdimjgaa.Mac Go.Proofs.Ytgmjofcbdimjgaa.MacW Go.Proofs.Ytgmjofcbdimjgaa.PrintMore
attribute [local go_sem] max2_int min2_int max_two min_two
attribute [local go_sem] field_got field_sent
attribute [local go_sem high] eqA24
/-- The law's memory: two frames; two nodes; a third one; the frame that came. -/
structure L2 (w W : World) (p1 p2 gx gy : Nat) (a b : Fm) (x y : M) : Prop where
  b1 : Blk W p1 24 (fc a)
  b2 : Blk W p2 24 (fc b)
  nx : Nf w W gx x
  ny : Nf w W gy y
  o1 : w.heap.size ≤ p1
  o2 : p1 < p2
  o3 : p2 < gx
  o4 : gx < gy
structure L0 (w W : World) (p1 p2 : Nat) (a b : Fm) : Prop where
  b1 : Blk W p1 24 (fc a)
  b2 : Blk W p2 24 (fc b)
  below : Below w.heap.size w W
  o1 : w.heap.size ≤ p1
  o2 : p1 < p2
structure L4 (w W : World) (p1 p2 gx gy gt p3 : Nat) (a b v : Fm) (x y t : M) : Prop where
  l2 : L2 w W p1 p2 gx gy a b x y
  nt : Nf w W gt t
  b3 : Blk W p3 24 (fc v)
  o5 : gy < gt
  o6 : gt < p3
theorem L0.later {w W W' : World} {p1 p2 : Nat} {a b : Fm} (h : L0 w W p1 p2 a b) (k : Below W.heap.size W W') : L0 w W' p1 p2 a b := ⟨h.b1.below k, h.b2.below k, h.below.trans (k.mono h.below.size), h.o1, h.o2⟩
theorem L0.make (w : World) (f1 f2 : Fm) : L0 w ((w.alloc (.cells #[.bool f1.e, .int .u32 f1.i, .bool f1.r, .string f1.d] 24)).alloc (.cells #[.bool f2.e, .int .u32 f2.i, .bool f2.r, .string f2.d] 24)) w.heap.size (w.heap.size + 1) f1 f2 := by
  have s1 : (w.alloc (.cells #[.bool f1.e, .int .u32 f1.i, .bool f1.r, .string f1.d] 24)).heap.size = w.heap.size + 1 := by simp
  have h2 := Blk.new (w.alloc (.cells #[.bool f1.e, .int .u32 f1.i, .bool f1.r, .string f1.d] 24)) (fc f2) 24
  rw [s1] at h2
  exact ⟨(Blk.new w (fc f1) _).alloc _, h2, ((Below.refl _ _).alloc (Nat.le_refl _) _).alloc (by simp) _, Nat.le_refl _, Nat.lt_succ_self _⟩
theorem L2.out {w W W' : World} {p1 p2 gx gy : Nat} {a b : Fm} {x y : M} {o : Option Nat} (h : L2 w W p1 p2 gx gy a b x y) (k : W.grownBy W' o) (ho : ∀ i, o = some i → gy < i) : L2 w W' p1 p2 gx gy a b x y := by
  have h1 := h.o1; have h2 := h.o2; have h3 := h.o3; have h4 := h.o4
  have hb : ∀ p, p ≤ gy → some p ≠ o := fun p hp e => by have := ho p e.symm; omega
  exact ⟨h.b1.grown k (hb _ (by omega)), h.b2.grown k (hb _ (by omega)), h.nx.out k (fun i e => by have := ho i e; omega), h.ny.out k (fun i e => by have := ho i e; omega), h1, h2, h3, h4⟩
theorem L2.setX {w W W' : World} {p1 p2 gx gy : Nat} {a b : Fm} {x x' y : M} (h : L2 w W p1 p2 gx gy a b x y) (n : Nf w W' gx x') (k : W.grownBy W' (some gx)) : L2 w W' p1 p2 gx gy a b x' y := by
  have h1 := h.o1; have h2 := h.o2; have h3 := h.o3; have h4 := h.o4
  exact ⟨h.b1.grown k (by simp; omega), h.b2.grown k (by simp; omega), n, h.ny.out k (fun i e => by injection e with e; omega), h1, h2, h3, h4⟩
theorem L2.setY {w W W' : World} {p1 p2 gx gy : Nat} {a b : Fm} {x y y' : M} (h : L2 w W p1 p2 gx gy a b x y) (n : Nf w W' gy y') (k : W.grownBy W' (some gy)) : L2 w W' p1 p2 gx gy a b x y' := by
  have h1 := h.o1; have h2 := h.o2; have h3 := h.o3; have h4 := h.o4
  exact ⟨h.b1.grown k (by simp; omega), h.b2.grown k (by simp; omega), h.nx.out k (fun i e => by injection e with e; omega), n, h1, h2, h3, h4⟩
theorem L4.out {w W W' : World} {p1 p2 gx gy gt p3 : Nat} {a b v : Fm} {x y t : M} {o : Option Nat} (h : L4 w W p1 p2 gx gy gt p3 a b v x y t) (k : W.grownBy W' o) (ho : ∀ i, o = some i → p3 < i) : L4 w W' p1 p2 gx gy gt p3 a b v x y t := by
  have h1 := h.l2.o1; have h2 := h.l2.o2; have h3 := h.l2.o3; have h4 := h.l2.o4; have h5 := h.o5; have h6 := h.o6
  exact ⟨h.l2.out k (fun i e => by have := ho i e; omega), h.nt.out k (fun i e => by have := ho i e; omega), h.b3.grown k (fun e => by have := ho p3 e.symm; omega), h5, h6⟩
theorem L4.setX {w W W' : World} {p1 p2 gx gy gt p3 : Nat} {a b v : Fm} {x y t x' : M} (h : L4 w W p1 p2 gx gy gt p3 a b v x y t) (n : Nf w W' gx x') (k : W.grownBy W' (some gx)) : L4 w W' p1 p2 gx gy gt p3 a b v x' y t := by
  have h1 := h.l2.o1; have h2 := h.l2.o2; have h3 := h.l2.o3; have h4 := h.l2.o4; have h5 := h.o5; have h6 := h.o6
  exact ⟨h.l2.setX n k, h.nt.out k (fun i e => by injection e with e; omega), h.b3.grown k (by simp; omega), h5, h6⟩
theorem L4.setY {w W W' : World} {p1 p2 gx gy gt p3 : Nat} {a b v : Fm} {x y t y' : M} (h : L4 w W p1 p2 gx gy gt p3 a b v x y t) (n : Nf w W' gy y') (k : W.grownBy W' (some gy)) : L4 w W' p1 p2 gx gy gt p3 a b v x y' t := by
  have h1 := h.l2.o1; have h2 := h.l2.o2; have h3 := h.l2.o3; have h4 := h.l2.o4; have h5 := h.o5; have h6 := h.o6
  exact ⟨h.l2.setY n k, h.nt.out k (fun i e => by injection e with e; omega), h.b3.grown k (by simp; omega), h5, h6⟩
theorem L4.setT {w W W' : World} {p1 p2 gx gy gt p3 : Nat} {a b v : Fm} {x y t t' : M} (h : L4 w W p1 p2 gx gy gt p3 a b v x y t) (n : Nf w W' gt t') (k : W.grownBy W' (some gt)) : L4 w W' p1 p2 gx gy gt p3 a b v x y t' := by
  have h1 := h.l2.o1; have h2 := h.l2.o2; have h3 := h.l2.o3; have h4 := h.l2.o4; have h5 := h.o5; have h6 := h.o6
  exact ⟨h.l2.out k (fun i e => by injection e with e; omega), n, h.b3.grown k (by simp; omega), h5, h6⟩
theorem won_grown (W : World) (p3 : Nat) (V : Fm) : W.grownBy ((((W.setCell ⟨p3, 0, none⟩ (.bool V.e)).setCell ⟨p3, 1, none⟩ (.int .u32 V.i)).setCell ⟨p3, 2, none⟩ (.bool V.r)).setCell ⟨p3, 3, none⟩ (.string V.d)) (some p3) :=
  grown_set (grown_set (grown_set (grown_set (grown_refl W _) 0 _) 1 _) 2 _) 3 _
theorem L4.won {w W : World} {p1 p2 gx gy gt p3 : Nat} {a b v : Fm} {x y t : M} (h : L4 w W p1 p2 gx gy gt p3 a b v x y t) (V : Fm) :
    L4 w ((((W.setCell ⟨p3, 0, none⟩ (.bool V.e)).setCell ⟨p3, 1, none⟩ (.int .u32 V.i)).setCell ⟨p3, 2, none⟩ (.bool V.r)).setCell ⟨p3, 3, none⟩ (.string V.d)) p1 p2 gx gy gt p3 a b V x y t := by
  have h1 := h.l2.o1; have h2 := h.l2.o2; have h3 := h.l2.o3; have h4 := h.l2.o4; have h5 := h.o5; have h6 := h.o6
  have k := won_grown W p3 V
  exact ⟨h.l2.out k (fun i e => by injection e with e; omega), h.nt.out k (fun i e => by injection e with e; omega), (((h.b3.set 0 _).set 1 _).set 2 _).set 3 _, h5, h6⟩
/-- The states and what is told. -/
structure LoF (a b V L : Fm) (n D : Nat) (x y t : Nat → M) (ex ey et : Nat → List Ev) (c : Nat → Bool) : Prop where
  lo : 44 ≤ n
  hi : n ≤ 157
  x0 : idleM.ask a = (x 0, 0)
  y0 : idleM.ask b = (y 0, 0)
  t0 : idleM = t 0
  wire : ∀ j, j < n → ((x j).drive && (y j).drive && (t j).drive) = c j
  sx : ∀ j, j < n → (x j).sample (c j) = (x (j + 1), ex j)
  sy : ∀ j, j < n → (y j).sample (c j) = (y (j + 1), ey j)
  st : ∀ j, j < n → (t j).sample (c j) = (t (j + 1), et j)
  short : ∀ j, (ex j).length ≤ 1 ∧ (ey j).length ≤ 1 ∧ (et j).length ≤ 1
  d0 : 0 < D
  d1 : D + 2 < n
  l0 : ex 0 ++ ey 0 ++ et 0 = [⟨6, Fm.zero, 0⟩, ⟨6, Fm.zero, 0⟩, ⟨6, Fm.zero, 0⟩]
  lD : ex D ++ ey D ++ et D = [⟨3, L, 0⟩]
  l2 : ∀ j, j + 2 = n → ex j ++ ey j ++ et j = [⟨2, V, 0⟩, ⟨2, V, 0⟩]
  l1 : ∀ j, j + 1 = n → ex j ++ ey j ++ et j = [⟨1, V, 0⟩]
  ln : ∀ j, j ≠ 0 → j ≠ D → j + 2 ≠ n → j + 1 ≠ n → j < n → ex j ++ ey j ++ et j = []
  v : V = a ∨ V = b
theorem lo_facts {V L : Fm} {D : Nat} (hV : V.Good) (hL : L.Good) (A : Apart V L D) :
    LoF V L V L V.ack.length D (wiM V) (loM V L D) (liM V) (wiE V) (loE V L D) (hrE V) (bitAt V.ack) ∧ LoF L V V L V.ack.length D (loM V L D) (wiM V) (liM V) (loE V L D) (wiE V) (hrE V) (bitAt V.ack) := by
  have hl := ack_long hV
  have hs := ack_short hV
  have r2 := arb_room hV
  have d0 := A.pos
  have d2 := A.ltW
  have s1 : ∀ j, (wiE V j).length ≤ 1 := fun j => by
    unfold wiE
    split
    · simp
    · split <;> simp
  have s3 : ∀ j, (hrE V j).length ≤ 1 := fun j => by
    unfold hrE
    split
    · simp
    · split <;> simp
  have s2 : ∀ j, (loE V L D j).length ≤ 1 := fun j => by
    unfold loE
    split; · simp
    split; · simp
    split; · simp
    exact s3 j
  have w0 : wiE V 0 = [⟨6, Fm.zero, 0⟩] := rfl
  have o0 : loE V L D 0 = [⟨6, Fm.zero, 0⟩] := rfl
  have h0 : hrE V 0 = [⟨6, Fm.zero, 0⟩] := rfl
  have wD : wiE V D = [] := by unfold wiE; rw [if_neg (by omega), if_neg (by omega)]
  have oD : loE V L D D = [⟨3, L, 0⟩] := by unfold loE; rw [if_neg (by omega), if_neg (by omega), if_pos rfl]
  have hD : hrE V D = [] := by unfold hrE; rw [if_neg (by omega), if_neg (by omega)]
  have w2 : ∀ j, j + 2 = V.ack.length → wiE V j = [] := fun j hj => by unfold wiE; rw [if_neg (by omega), if_neg (by omega)]
  have h2 : ∀ j, j + 2 = V.ack.length → hrE V j = [⟨2, V, 0⟩] := fun j hj => by unfold hrE; rw [if_neg (by omega), if_pos hj]
  have o2 : ∀ j, j + 2 = V.ack.length → loE V L D j = [⟨2, V, 0⟩] := fun j hj => by unfold loE; rw [if_neg (by omega), if_neg (by omega), if_neg (by omega)]; exact h2 j hj
  have w1 : ∀ j, j + 1 = V.ack.length → wiE V j = [⟨1, V, 0⟩] := fun j hj => by unfold wiE; rw [if_neg (by omega), if_pos hj]
  have h1 : ∀ j, j + 1 = V.ack.length → hrE V j = [] := fun j hj => by unfold hrE; rw [if_neg (by omega), if_neg (by omega)]
  have o1 : ∀ j, j + 1 = V.ack.length → loE V L D j = [] := fun j hj => by unfold loE; rw [if_neg (by omega), if_neg (by omega), if_neg (by omega)]; exact h1 j hj
  have wn : ∀ j, j ≠ 0 → j ≠ D → j + 2 ≠ V.ack.length → j + 1 ≠ V.ack.length → wiE V j = [] := fun j a b c d => by unfold wiE; rw [if_neg a, if_neg d]
  have hn : ∀ j, j ≠ 0 → j ≠ D → j + 2 ≠ V.ack.length → j + 1 ≠ V.ack.length → hrE V j = [] := fun j a b c d => by unfold hrE; rw [if_neg a, if_neg c]
  have on : ∀ j, j ≠ 0 → j ≠ D → j + 2 ≠ V.ack.length → j + 1 ≠ V.ack.length → loE V L D j = [] := fun j a b c d => by
    unfold loE
    rw [if_neg a]
    split
    · rfl
    · first | (rw [if_neg b]; exact hn j a b c d) | exact hn j a b c d
  have xw : idleM.ask V = (wiM V 0, 0) := by
    have e : wiM V 0 = sdM V 0 := if_pos (by omega)
    rw [e]; exact idle_asked hV
  have xl : idleM.ask L = (loM V L D 0, 0) := by
    have e : loM V L D 0 = sdM L 0 := if_pos (by omega)
    rw [e]; exact idle_asked hL
  refine ⟨⟨hl.1, hs, xw, xl, rfl, fun j hj => two_wire hV hL A hj, fun j hj => wi_step hV hj, fun j hj => lo_step hV hL A hj, fun j hj => li_step hV hj, fun j => ⟨s1 j, s2 j, s3 j⟩, d0, by omega, ?_, ?_, fun j hj => ?_, fun j hj => ?_, fun j a b c d _ => ?_, .inl rfl⟩,
    ⟨hl.1, hs, xl, xw, rfl, fun j hj => ?_, fun j hj => lo_step hV hL A hj, fun j hj => wi_step hV hj, fun j hj => li_step hV hj, fun j => ⟨s2 j, s1 j, s3 j⟩, d0, by omega, ?_, ?_, fun j hj => ?_, fun j hj => ?_, fun j a b c d _ => ?_, .inr rfl⟩⟩
  · rw [w0, o0, h0]; rfl
  · rw [wD, oD, hD]; rfl
  · rw [w2 j hj, o2 j hj, h2 j hj]; rfl
  · rw [w1 j hj, o1 j hj, h1 j hj]; rfl
  · rw [wn j a b c d, on j a b c d, hn j a b c d]; rfl
  · have := two_wire hV hL A hj
    rw [Bool.and_comm (loM V L D j).drive]
    exact this
  · rw [w0, o0, h0]; rfl
  · rw [wD, oD, hD]; rfl
  · rw [w2 j hj, o2 j hj, h2 j hj]; rfl
  · rw [w1 j hj, o1 j hj, h1 j hj]; rfl
  · rw [wn j a b c d, on j a b c d, hn j a b c d]; rfl
def loG (n j : Nat) : Nat := if n ≤ j + 1 then 2 else 0
def loL (D j : Nat) : Nat := if D < j then 1 else 0
def loS (n j : Nat) : Nat := if j = n then 1 else 0
def loV (V : Fm) (n j : Nat) : Fm := if n ≤ j + 1 then V else Fm.zero
set_option maxRecDepth 100000 in
set_option maxHeartbeats 12800000 in
theorem loses_calls (a b : Fm) (w : World) (hwa : a.wf) (hwb : b.wf) : Calls Try.prog 4 #[.agg #[.bool a.e, .int .u32 a.i, .bool a.r, .string a.d], .agg #[.bool b.e, .int .u32 b.i, .bool b.r, .string b.d]] w
    fun e w' => e = .returned (.bool true) ∧ Below w.heap.size w w' := by
  have HB := hid (L0.make w a b)
  go_enter Try.func4, Try.ntmps4
  go_wp2_with fail
  with_reducible refine (known_calls _).mono ?_
  rintro y w1 ⟨rfl, hb⟩
  have HC := hid (HB.out.later hb)
  clear HB hb
  generalize hp : w.heap.size = p at HC ⊢
  have hpp : ∃ p2, p + 1 = p2 := ⟨_, rfl⟩
  obtain ⟨p2, hp2⟩ := hpp
  rw [hp2] at HC ⊢
  obtain ⟨x0, x1, x2, x3⟩ := blk_fr HC.out.b1
  obtain ⟨y0, y1, y2, y3⟩ := blk_fr HC.out.b2
  by_cases hlen : a.d.size ≤ 20 ∧ b.d.size ≤ 20
  case neg =>
    by_cases h20 : a.d.size ≤ 20
    · have h21 : ¬ b.d.size ≤ 20 := fun h => hlen ⟨h20, h⟩
      go_wp2_with fail
      go_ret
      exact ⟨rfl, by subst hp; exact HC.out.below⟩
    · go_wp2_with fail
      go_ret
      exact ⟨rfl, by subst hp; exact HC.out.below⟩
  obtain ⟨h20, h21⟩ := hlen
  go_wp2_with fail
  have hq := nf_new HC.out.below
  with_reducible refine hq.mono ?_
  clear hq
  rintro y w2 ⟨rfl, h2, hb2⟩
  have hX : ∃ gx, w1.heap.size = gx := ⟨_, rfl⟩
  obtain ⟨gx, hgx⟩ := hX
  have HD := hid (HC.out.later hb2)
  rw [hgx] at h2 hb2 ⊢
  have HX := hid h2
  have hlt1 := HC.out.b2.lt
  have hlt2 := HX.out.nd.blk.lt
  clear HC h2 x0 x1 x2 x3 y0 y1 y2 y3
  go_wp2_with fail
  have hq := nf_new HD.out.below
  with_reducible refine hq.mono ?_
  clear hq
  rintro y w3 ⟨rfl, h3, hb3⟩
  have hY : ∃ gy, w2.heap.size = gy := ⟨_, rfl⟩
  obtain ⟨gy, hgy⟩ := hY
  have HE := HD.out.later hb3
  have HX3 := HX.out.later hb3
  rw [hgy] at h3 hb3 ⊢
  have H3 := hid (show L2 w w3 p p2 gx gy a b (nw 0) (nw 0) from ⟨HE.b1, HE.b2, HX3, h3, HE.o1, HE.o2, by omega, by omega⟩)
  clear HE HX3 h3 hb3 HD HX hlt1 hlt2 hgx hgy
  go_wp2_with fail
  go_loopw [7] (fun i wr => ∃ j : Nat, j ≤ 5 ∧ i = .int .i64 j ∧ L2 w wr p p2 gx gy a b (nw j) (nw j)) (fun i _ => 5 - (intOf i).toNat)
  case atStart => exact ⟨0, Nat.zero_le _, rfl, H3.out⟩
  case round =>
    clear H3
    obtain ⟨j, hj, rfl, HZ⟩ := hrel
    have H4 := hid HZ
    clear HZ
    by_cases hlt : j < 5
    · have u0 : ((j : Int) < 5) = True := eq_true (by omega)
      have u1 : decide ((j : Int) < 5) = true := decide_eq_true (by omega)
      have u2 : IntKind.i64.wrap ((j : Int) + 1) = ((j + 1 : Nat) : Int) := by rw [IntKind.wrap_i64]; omega
      have u3 : (j < 5) = True := eq_true hlt
      go_wp2_with fail
      with_reducible refine (nf_sample H4.out.nx true 49 rfl).mono ?_
      rintro y w4 ⟨v, rfl, h5, _, hg⟩
      rw [nw_step] at h5
      have H5 := hid (H4.out.setX h5 hg)
      clear H4 h5 hg
      go_wp2_with fail
      with_reducible refine (nf_sample H5.out.ny true 49 rfl).mono ?_
      rintro y w5 ⟨v2, rfl, h6, _, hg⟩
      rw [nw_step] at h6
      have H6 := hid (H5.out.setY h6 hg)
      clear H5 h6 hg
      go_wp2_with fail
      go_roundw
      case rel => exact ⟨j + 1, by omega, by go_num, H6.out⟩
      case measure => simp [intOf]; omega
    · obtain rfl : j = 5 := by omega
      have h5 := H4.out
      rw [nw_idle (by omega)] at h5
      have H5 := hid h5
      clear H4 h5 hlt hj
      go_upto_region 11 with fail
      go_cut [70] (fun s70 wc => (s70 = .bool true ∧ Below w.heap.size w wc) ∨ (s70 = .bool false ∧ a.Good ∧ b.Good ∧ ¬ (a.i = b.i ∧ a.e = b.e ∧ a.r = b.r) ∧ L2 w wc p p2 gx gy a b { idleM with waits := true, f := a } { idleM with waits := true, f := b }))
      case first =>
        obtain ⟨x0, x1, x2, x3⟩ := blk_fr H5.out.b1
        go_wp2_with fail
        have hq := nf_ask H5.out.nx a hwa
        rw [fv_eq] at hq
        with_reducible refine hq.mono ?_
        clear hq
        rintro y w6 ⟨rfl, h6, hg⟩
        have H6 := hid (H5.out.setX h6 hg)
        clear H5 h6 hg x0 x1 x2 x3
        obtain ⟨x0, x1, x2, x3⟩ := blk_fr H6.out.b1
        obtain ⟨y0, y1, y2, y3⟩ := blk_fr H6.out.b2
        cases hoka : a.ok
        · have e : (idleM.ask a).2 = 12 := by
            unfold M.ask
            rw [if_neg (by decide), if_pos hoka]
          rw [e]
          go_wp2_with fail
          go_meet
          case rel => exact .inl ⟨rfl, by subst hp; exact H6.out.nx.nd.below⟩
        have hga : a.Good := ⟨hoka, hwa⟩
        have hask : idleM.ask a = ({ idleM with waits := true, f := a }, 0) := idle_asked hga
        rw [hask] at H6 ⊢
        simp only
        go_wp2_with fail
        have hq := nf_ask H6.out.ny b hwb
        rw [fv_eq] at hq
        with_reducible refine hq.mono ?_
        clear hq
        rintro y w7 ⟨rfl, h7, hg⟩
        have H7 := hid (H6.out.setY h7 hg)
        clear H6 h7 hg x0 x1 x2 x3 y0 y1 y2 y3
        obtain ⟨x0, x1, x2, x3⟩ := blk_fr H7.out.b1
        obtain ⟨y0, y1, y2, y3⟩ := blk_fr H7.out.b2
        cases hokb : b.ok
        · have e : (idleM.ask b).2 = 12 := by
            unfold M.ask
            rw [if_neg (by decide), if_pos hokb]
          rw [e]
          go_wp2_with fail
          go_meet
          case rel => exact .inl ⟨rfl, by subst hp; exact H7.out.nx.nd.below⟩
        have hgb : b.Good := ⟨hokb, hwb⟩
        have hask2 : idleM.ask b = ({ idleM with waits := true, f := b }, 0) := idle_asked hgb
        rw [hask2] at H7 ⊢
        simp only
        by_cases hi : a.i = b.i
        · have e1 : (a.i == b.i) = true := beq_iff_eq.2 hi
          have e1' : (a.i = b.i) = True := eq_true hi
          clear hi
          by_cases he : a.e = b.e
          · have e2 : (a.e == b.e) = true := beq_iff_eq.2 he
            have e2' : (a.e = b.e) = True := eq_true he
            clear he
            by_cases hr : a.r = b.r
            · have e3 : (a.r == b.r) = true := beq_iff_eq.2 hr
              have e3' : (a.r = b.r) = True := eq_true hr
              clear hr
              go_wp2_with fail
              go_meet
              case rel => exact .inl ⟨rfl, by subst hp; exact H7.out.nx.nd.below⟩
            · have e3 : (a.r == b.r) = false := beq_eq_false_iff_ne.2 hr
              have e3' : (a.r = b.r) = False := eq_false hr
              go_wp2_with fail
              go_meet
              case rel => exact .inr ⟨rfl, hga, hgb, fun h => hr h.2.2, H7.out⟩
          · have e2 : (a.e == b.e) = false := beq_eq_false_iff_ne.2 he
            have e2' : (a.e = b.e) = False := eq_false he
            go_wp2_with fail
            go_meet
            case rel => exact .inr ⟨rfl, hga, hgb, fun h => he h.2.1, H7.out⟩
        · have e1 : (a.i == b.i) = false := beq_eq_false_iff_ne.2 hi
          have e1' : (a.i = b.i) = False := eq_false hi
          go_wp2_with fail
          go_meet
          case rel => exact .inr ⟨rfl, hga, hgb, fun h => hi h.1, H7.out⟩
      case rest =>
        clear H5
        rcases hcut with ⟨rfl, hbel⟩ | ⟨rfl, hga, hgb, hne, HZ⟩
        · go_wp2_with fail
          go_ret
          exact ⟨rfl, by subst hp; exact hbel⟩
        have H8 := hid HZ
        clear HZ
        go_wp2_with fail
        have hq := nf_new H8.out.nx.nd.below
        with_reducible refine hq.mono ?_
        clear hq
        rintro y w3 ⟨rfl, h3, hb3⟩
        have hT : ∃ gt, wc.heap.size = gt := ⟨_, rfl⟩
        obtain ⟨gt, hgt⟩ := hT
        have hlt := H8.out.ny.nd.blk.lt
        have H9 := H8.out.out (o := none) (grown_of_below hb3) (fun i e => by cases e)
        rw [hgt] at h3 hb3 hlt ⊢
        have HT := hid (show Nf w w3 gt (nw 0) from h3)
        have H10 := hid H9
        have hg5 : gy < gt := hlt
        clear H8 H9 h3 hb3 hlt hgt
        go_wp2_with fail
        go_loopw [9] (fun i wr => ∃ j : Nat, j ≤ 5 ∧ i = .int .i64 j ∧ L2 w wr p p2 gx gy a b { idleM with waits := true, f := a } { idleM with waits := true, f := b } ∧ Nf w wr gt (nw j)) (fun i _ => 5 - (intOf i).toNat)
        case atStart => exact ⟨0, Nat.zero_le _, rfl, H10.out, HT.out⟩
        case round =>
          clear H10 HT
          obtain ⟨j, hj, rfl, HX, HY⟩ := hrel
          have H4 := hid HX
          have H5 := hid HY
          clear HX HY
          by_cases hlt : j < 5
          · have u0 : ((j : Int) < 5) = True := eq_true (by omega)
            have u1 : decide ((j : Int) < 5) = true := decide_eq_true (by omega)
            have u2 : IntKind.i64.wrap ((j : Int) + 1) = ((j + 1 : Nat) : Int) := by rw [IntKind.wrap_i64]; omega
            have u3 : (j < 5) = True := eq_true hlt
            go_wp2_with fail
            with_reducible refine (nf_sample H5.out true 49 rfl).mono ?_
            rintro y w4 ⟨v, rfl, h5, _, hg⟩
            rw [nw_step] at h5
            have H6 := hid (H4.out.out hg (fun i e => by injection e with e; omega))
            have H7 := hid h5
            clear H4 H5 h5 hg
            go_wp2_with fail
            go_roundw
            case rel => exact ⟨j + 1, by omega, by go_num, H6.out, H7.out⟩
            case measure => simp [intOf]; omega
          · obtain rfl : j = 5 := by omega
            have h5 := H5.out
            rw [nw_idle (by omega)] at h5
            have hF : ∃ V L n D x y t ex ey et c, LoF a b V L n D x y t ex ey et c := by
              rcases apart_two hga hgb hne with ⟨D, A⟩ | ⟨D, A⟩
              · exact ⟨_, _, _, _, _, _, _, _, _, _, _, (lo_facts hga hgb A).1⟩
              · exact ⟨_, _, _, _, _, _, _, _, _, _, _, (lo_facts hgb hga A).2⟩
            obtain ⟨V, L, n, D, x, y, t, ex, ey, et, c, hF⟩ := hF
            have hx0 : x 0 = { idleM with waits := true, f := a } := by
              have h1 := hF.x0
              have h2 : idleM.ask a = ({ idleM with waits := true, f := a }, 0) := idle_asked hga
              rw [h2] at h1
              exact (Prod.mk.inj h1).1.symm
            have hy0 : y 0 = { idleM with waits := true, f := b } := by
              have h1 := hF.y0
              have h2 : idleM.ask b = ({ idleM with waits := true, f := b }, 0) := idle_asked hgb
              rw [h2] at h1
              exact (Prod.mk.inj h1).1.symm
            have h4 := H4.out
            rw [← hx0, ← hy0] at h4
            rw [hF.t0] at h5
            have HF := hid hF
            have HX := hid h4
            have HT := hid h5
            have hn1 := hF.lo
            have hn2 := hF.hi
            clear hx0 hy0 h4 h5 H4 H5 hF hne hlt hj
            go_wp2_with fail
            simp only [Int.cast_ofNat_Int]
            have hP : ∃ p3, wr.heap.size = p3 := ⟨_, rfl⟩
            obtain ⟨p3, hp3⟩ := hP
            have HL := hid (show L4 w (wr.alloc (.cells #[.bool false, .int .u32 0, .bool false, .string ⟨#[]⟩] 24)) p p2 gx gy gt p3 a b (loV V n 0) (x 0) (y 0) (t 0) from by
              have e : loV V n 0 = Fm.zero := if_neg (by omega)
              have hal : wr.grownBy (wr.alloc (.cells #[.bool false, .int .u32 0, .bool false, .string ⟨#[]⟩] 24)) none := grown_of_below ((Below.refl _ _).alloc (Nat.le_refl _) _)
              rw [e]
              refine ⟨HX.out.out (o := none) hal (fun i e => by cases e), HT.out.out (o := none) hal (fun i e => by cases e), ?_, hg5, by have := HT.out.nd.blk.lt; omega⟩
              rw [← hp3]
              exact Blk.new wr (fc Fm.zero) _)
            rw [hp3]
            generalize wr.alloc (.cells #[.bool false, .int .u32 0, .bool false, .string ⟨#[]⟩] 24) = wl at HL ⊢
            clear HX HT hp3
            go_loopw [10, 11, 12, 14] (fun g l s i wr => ∃ j : Nat, j ≤ n ∧ i = .int .i64 j ∧ g = .int .i64 (loG n j) ∧ l = .int .i64 (loL D j) ∧ s = .int .i64 (loS n j) ∧ L4 w wr p p2 gx gy gt p3 a b (loV V n j) (x j) (y j) (t j)) (fun _ _ _ i _ => n - (intOf i).toNat)
            case atStart => exact ⟨0, Nat.zero_le _, rfl, by rw [show loG n 0 = 0 from if_neg (by omega)]; rfl, by rw [show loL D 0 = 0 from if_neg (by omega)]; rfl, by rw [show loS n 0 = 0 from if_neg (by omega)]; rfl, HL.out⟩
            case round =>
              clear HL
              obtain ⟨j, hj, rfl, rfl, rfl, rfl, HX⟩ := hrel
              have H4 := hid HX
              clear HX
              by_cases hlt : j < n
              · have u0 : ((j : Int) < 220) = True := eq_true (by omega)
                have u1 : decide ((j : Int) < 220) = true := decide_eq_true (by omega)
                have u2 : IntKind.i64.wrap ((j : Int) + 1) = ((j + 1 : Nat) : Int) := by rw [IntKind.wrap_i64]; omega
                have u3 : (j < 220) = True := eq_true (by omega)
                rw [show loS n j = 0 from if_neg (by omega)]
                have hG : loG n j = 0 ∨ loG n j = 2 := by unfold loG; split <;> simp
                go_upto_region 24 with fail
                go_cut [98] (fun s98 wc => s98 = .bool (!(c j)) ∧ L4 w wc p p2 gx gy gt p3 a b (loV V n j) (x j) (y j) (t j))
                case first =>
                  have hw := HF.out.wire j hlt
                  cases hdx : (x j).drive
                  · rw [hdx] at hw
                    go_wp2_with fail
                    with_reducible refine (nf_drive H4.out.l2.nx).mono ?_
                    rintro y w8 ⟨rfl, h8, hg⟩
                    rw [hdx, show ((sg false).toNat : Int) = 48 from rfl]
                    have H8 := hid (H4.out.setX h8 hg)
                    clear H4 h8 hg
                    go_wp2_with fail
                    go_meet
                    case rel => exact ⟨by rw [← hw]; rfl, H8.out⟩
                  rw [hdx] at hw
                  go_wp2_with fail
                  with_reducible refine (nf_drive H4.out.l2.nx).mono ?_
                  rintro y w8 ⟨rfl, h8, hg⟩
                  rw [hdx, show ((sg true).toNat : Int) = 49 from rfl]
                  have H8 := hid (H4.out.setX h8 hg)
                  clear H4 h8 hg
                  --TAIL
                  go_wp2_with fail
                  cases hdy : (y j).drive
                  · rw [hdy] at hw
                    with_reducible refine (nf_drive H8.out.l2.ny).mono ?_
                    rintro y9 w9 ⟨rfl, h9, hg⟩
                    rw [hdy, show ((sg false).toNat : Int) = 48 from rfl]
                    have H9 := hid (H8.out.setY h9 hg)
                    clear H8 h9 hg
                    go_wp2_with fail
                    go_meet
                    case rel => exact ⟨by rw [← hw]; rfl, H9.out⟩
                  rw [hdy] at hw
                  with_reducible refine (nf_drive H8.out.l2.ny).mono ?_
                  rintro y9 w9 ⟨rfl, h9, hg⟩
                  rw [hdy, show ((sg true).toNat : Int) = 49 from rfl]
                  have H9 := hid (H8.out.setY h9 hg)
                  clear H8 h9 hg
                  go_wp2_with fail
                  with_reducible refine (nf_drive H9.out.nt).mono ?_
                  rintro y9 w10 ⟨rfl, h10, hg⟩
                  have H10 := hid (H9.out.setT h10 hg)
                  clear H9 h10 hg
                  cases hdt : (t j).drive
                  · rw [hdt] at hw
                    rw [show ((sg false).toNat : Int) = 48 from rfl]
                    go_wp2_with fail
                    go_meet
                    case rel => exact ⟨by rw [← hw]; rfl, H10.out⟩
                  · rw [hdt] at hw
                    rw [show ((sg true).toNat : Int) = 49 from rfl]
                    go_wp2_with fail
                    go_meet
                    case rel => exact ⟨by rw [← hw]; rfl, H10.out⟩
                case rest =>
                  obtain ⟨rfl, HX⟩ := hcut
                  have H5 := hid HX
                  clear HX H4
                  go_upto_if 98 with fail
                  go_cut [15] (fun s15 wc => s15 = .int .u8 ((sg (c j)).toNat : Int) ∧ L4 w wc p p2 gx gy gt p3 a b (loV V n j) (x j) (y j) (t j))
                  case first =>
                    cases hc : c j
                    · go_wp2_with fail
                      go_meet
                      case rel => exact ⟨by rw [hc]; rfl, H5.out⟩
                    · go_wp2_with fail
                      go_meet
                      case rel => exact ⟨by rw [hc]; rfl, H5.out⟩
                  case rest =>
                    obtain ⟨rfl, HX⟩ := hcut
                    have H6 := hid HX
                    clear HX H5
                    have hbx := H6.out.b3.lt
                    have ho1 := H6.out.l2.o1; have ho2 := H6.out.l2.o2; have ho3 := H6.out.l2.o3; have ho4 := H6.out.l2.o4; have ho5 := H6.out.o5; have ho6 := H6.out.o6
                    obtain ⟨z1, hz1⟩ : ∃ z1, wc.heap.size = z1 := ⟨_, rfl⟩
                    rw [hz1] at hbx
                    go_wp2_with fail
                    with_reducible refine (nf_sample H6.out.l2.nx (c j) _ (sg_48b _)).mono ?_
                    rintro y9 w7 ⟨v1, rfl, h7, hev1, hg⟩
                    rw [HF.out.sx j hlt] at h7 hev1
                    have hev1 : Evs w7 wc.heap.size v1 (ex j) := hev1
                    rw [hz1] at hev1
                    have H7 := hid (H6.out.setX h7 hg)
                    have hs7 := hg.size
                    rw [hz1] at hs7
                    have HV1 := hid hev1
                    clear H6 h7 hg hev1 hz1
                    go_wp2_with fail
                    with_reducible refine (nf_sample H7.out.l2.ny (c j) _ (sg_48b _)).mono ?_
                    rintro y9 w8 ⟨v2, rfl, h8, hev2, hg⟩
                    rw [HF.out.sy j hlt] at h8 hev2
                    have hev2 : Evs w8 w7.heap.size v2 (ey j) := hev2
                    have H8 := hid (H7.out.setY h8 hg)
                    have hs8 := hg.size
                    have HV2 := hid hev2
                    have HW1 := hid (evs_kept HV1.out hg (fun i e e2 => by
                      injection e with e
                      rcases evs_from HV1.out with h | ⟨g, h, hb, _⟩
                      · rw [h] at e2; cases e2
                      · rw [h] at e2; injection e2 with e2; omega))
                    clear H7 h8 hg hev2 HV1
                    obtain ⟨sl1, sl2, sl3⟩ := HF.out.short j
                    obtain ⟨v3, w9, r1, r2, r3, r4⟩ := run_app2 HW1.out HV2.out (by omega) (by omega) (by omega)
                    have H9 := hid (H8.out.out r3 (fun i e => by
                      rcases evs_from HW1.out with h | ⟨g, h, hb, _⟩
                      · rw [h] at e; cases e
                      · rw [h] at e; injection e with e; omega))
                    have hs9 := r3.size
                    have HW3 := hid r2
                    have hv3 : v3.ownBlock = none ∨ ∃ g, v3.ownBlock = some g ∧ z1 ≤ g := by
                      rcases evs_from r2 with h | ⟨g, h, hb, _⟩
                      · exact .inl h
                      · exact .inr ⟨g, h, hb⟩
                    have HO3 := hid hv3
                    clear H8 HW1 HV2 r2 r3 r4 hv3
                    have R1 := hid r1
                    clear r1
                    go_wp2_with (at_builtin; refine app_evs rfl (.tmp 101) (.tmp 104) rfl rfl rfl rfl R1.out ?_)
                    with_reducible refine (nf_sample H9.out.nt (c j) _ (sg_48b _)).mono ?_
                    rintro y9 w10 ⟨v4, rfl, h10, hev4, hg⟩
                    rw [HF.out.st j hlt] at h10 hev4
                    have hev4 : Evs w10 w9.heap.size v4 (et j) := hev4
                    have H10 := hid (H9.out.setT h10 hg)
                    have hs10 := hg.size
                    have HV4 := hid hev4
                    have HW5 := hid (evs_kept HW3.out hg (fun i e e2 => by
                      injection e with e
                      rcases HO3.out with h | ⟨g, h, hb⟩
                      · rw [h] at e2; cases e2
                      · rw [h] at e2; injection e2 with e2; omega))
                    clear H9 h10 hg hev4 HW3 R1
                    obtain ⟨v5, w11, r1, r2, r3, r4⟩ := run_app2 HW5.out HV4.out (by omega) (by rw [List.length_append]; omega) (by omega)
                    have H11 := hid (H10.out.out r3 (fun i e => by
                      rcases HO3.out with h | ⟨g, h, hb⟩
                      · rw [h] at e; cases e
                      · rw [h] at e; injection e with e; omega))
                    have HW6 := hid r2
                    have R1 := hid r1
                    clear H10 HW5 HV4 r2 r3 r4 HO3 hs7 hs8 hs9 hs10 sl1 sl2 sl3 r1
                    go_wp2_with (at_builtin; refine app_evs rfl (.tmp 105) (.tmp 108) rfl rfl rfl rfl R1.out ?_)
                    clear R1
                    clear ho1 ho2 ho3 ho4 ho5 ho6 hG
                    have hEV := HW6.out
                    clear HW6
                    rcases (show j = 0 ∨ j = D ∨ j + 2 = n ∨ j + 1 = n ∨ (j ≠ 0 ∧ j ≠ D ∧ j + 2 ≠ n ∧ j + 1 ≠ n) by omega) with h | h | h | h | ⟨h0, hD, h2, h1⟩
                    · have eg : loG n (j + 1) = loG n j := by unfold loG; rw [if_neg (by omega), if_neg (by omega)]
                      have el : loL D (j + 1) = loL D j := by have := HF.out.d0; unfold loL; rw [if_neg (by omega), if_neg (by omega)]
                      have es : loS n (j + 1) = 0 := by unfold loS; rw [if_neg (by omega)]
                      have ev : loV V n (j + 1) = loV V n j := by unfold loV; rw [if_neg (by omega), if_neg (by omega)]
                      rw [show ex j ++ ey j ++ et j = [⟨6, Fm.zero, 0⟩, ⟨6, Fm.zero, 0⟩, ⟨6, Fm.zero, 0⟩] from by rw [h]; exact HF.out.l0] at hEV
                      obtain ⟨q, cap, rfl, _, hel⟩ := evs_some hEV (by simp)
                      have HE := hid hel
                      clear hEV hel
                      simp only [List.length_cons, List.length_nil]
                      go_wp2_with fail
                      go_loopw [10, 11, 12, 17] (fun g l s k wr => ∃ i : Nat, i ≤ 3 ∧ k = .int .i64 i ∧ g = .int .i64 (loG n j) ∧ l = .int .i64 (loL D j) ∧ s = .int .i64 0 ∧ L4 w wr p p2 gx gy gt p3 a b (loV V n j) (x (j + 1)) (y (j + 1)) (t (j + 1)) ∧ EL wr q [⟨6, Fm.zero, 0⟩, ⟨6, Fm.zero, 0⟩, ⟨6, Fm.zero, 0⟩]) (fun _ _ _ k _ => 3 - (intOf k).toNat)
                      case atStart => exact ⟨0, by omega, rfl, rfl, rfl, rfl, H11.out, HE.out⟩
                      case round =>
                        clear H11 HE
                        obtain ⟨i, hi, rfl, rfl, rfl, rfl, HX, HY⟩ := hrel
                        have HX := hid HX
                        have y0 := HY.get 0 (.int .i64 6) rfl
                        have y1 := HY.get 6 (.int .i64 6) rfl
                        have y2 := HY.get 12 (.int .i64 6) rfl
                        have HY := hid HY
                        rcases (show i = 0 ∨ i = 1 ∨ i = 2 ∨ i = 3 by omega) with rfl | rfl | rfl | rfl
                        · go_wp2_with fail
                          go_roundw
                          case rel => exact ⟨1, by omega, by go_num, rfl, rfl, rfl, HX.out, HY.out⟩
                          case measure => simp [intOf]
                        · go_wp2_with fail
                          go_roundw
                          case rel => exact ⟨2, by omega, by go_num, rfl, rfl, rfl, HX.out, HY.out⟩
                          case measure => simp [intOf]
                        · go_wp2_with fail
                          go_roundw
                          case rel => exact ⟨3, by omega, by go_num, rfl, rfl, rfl, HX.out, HY.out⟩
                          case measure => simp [intOf]
                        · go_wp2_with fail
                          go_roundw
                          case rel => exact ⟨j + 1, by omega, by go_num, by rw [eg], by rw [el], by rw [es]; rfl, by rw [ev]; exact HX.out⟩
                          case measure => simp [intOf]; omega
                    · have eg : loG n (j + 1) = loG n j := by have := HF.out.d1; unfold loG; rw [if_neg (by omega), if_neg (by omega)]
                      have el : loL D (j + 1) = 1 := by unfold loL; rw [if_pos (by omega)]
                      have el0 : loL D j = 0 := by unfold loL; rw [if_neg (by omega)]
                      have es : loS n (j + 1) = 0 := by have := HF.out.d1; unfold loS; rw [if_neg (by omega)]
                      have ev : loV V n (j + 1) = loV V n j := by have := HF.out.d1; unfold loV; rw [if_neg (by omega), if_neg (by omega)]
                      rw [show ex j ++ ey j ++ et j = [⟨3, L, 0⟩] from by rw [h]; exact HF.out.lD] at hEV
                      obtain ⟨q, cap, rfl, _, hel⟩ := evs_some hEV (by simp)
                      have HE := hid hel
                      clear hEV hel
                      simp only [List.length_cons, List.length_nil]
                      rw [el0]
                      go_wp2_with fail
                      go_loopw [10, 11, 12, 17] (fun g l s k wr => ∃ i : Nat, i ≤ 1 ∧ k = .int .i64 i ∧ g = .int .i64 (loG n j) ∧ l = .int .i64 i ∧ s = .int .i64 0 ∧ L4 w wr p p2 gx gy gt p3 a b (loV V n j) (x (j + 1)) (y (j + 1)) (t (j + 1)) ∧ EL wr q [⟨3, L, 0⟩]) (fun _ _ _ k _ => 1 - (intOf k).toNat)
                      case atStart => exact ⟨0, by omega, rfl, rfl, rfl, rfl, H11.out, HE.out⟩
                      case round =>
                        clear H11 HE
                        obtain ⟨i, hi, rfl, rfl, rfl, rfl, HX, HY⟩ := hrel
                        have HX := hid HX
                        have y0 := HY.get 0 (.int .i64 3) rfl
                        have HY := hid HY
                        rcases (show i = 0 ∨ i = 1 by omega) with rfl | rfl
                        · go_wp2_with fail
                          go_roundw
                          case rel => exact ⟨1, by omega, by go_num, rfl, by go_num, rfl, HX.out, HY.out⟩
                          case measure => simp [intOf]
                        · go_wp2_with fail
                          go_roundw
                          case rel => exact ⟨j + 1, by omega, by go_num, by rw [eg], by rw [el], by rw [es]; rfl, by rw [ev]; exact HX.out⟩
                          case measure => simp [intOf]; omega
                    · have eg : loG n (j + 1) = 2 := by unfold loG; rw [if_pos (by omega)]
                      have eg0 : loG n j = 0 := by unfold loG; rw [if_neg (by omega)]
                      have el : loL D (j + 1) = loL D j := by have := HF.out.d1; unfold loL; rw [if_pos (by omega), if_pos (by omega)]
                      have es : loS n (j + 1) = 0 := by unfold loS; rw [if_neg (by omega)]
                      have ev : loV V n (j + 1) = V := by unfold loV; rw [if_pos (by omega)]
                      have ev0 : loV V n j = Fm.zero := by unfold loV; rw [if_neg (by omega)]
                      rw [HF.out.l2 j h] at hEV
                      rw [ev0] at H11
                      obtain ⟨q, cap, rfl, hqz, hel⟩ := evs_some hEV (by simp)
                      have HE := hid hel
                      have hpq : p3 < q := by omega
                      clear hEV hel
                      simp only [List.length_cons, List.length_nil]
                      rw [eg0]
                      go_wp2_with fail
                      go_loopw [10, 11, 12, 17] (fun g l s k wr => ∃ i : Nat, i ≤ 2 ∧ k = .int .i64 i ∧ g = .int .i64 i ∧ l = .int .i64 (loL D j) ∧ s = .int .i64 0 ∧ L4 w wr p p2 gx gy gt p3 a b (if i = 0 then Fm.zero else V) (x (j + 1)) (y (j + 1)) (t (j + 1)) ∧ EL wr q [⟨2, V, 0⟩, ⟨2, V, 0⟩]) (fun _ _ _ k _ => 2 - (intOf k).toNat)
                      case atStart => exact ⟨0, by omega, rfl, rfl, rfl, rfl, H11.out, HE.out⟩
                      case round =>
                        clear H11 HE
                        obtain ⟨i, hi, rfl, rfl, rfl, rfl, HX, HY⟩ := hrel
                        have HX := hid HX
                        have y0 := HY.get 0 (.int .i64 2) rfl
                        have y1 := HY.get 1 (.bool V.e) rfl
                        have y2 := HY.get 2 (.int .u32 V.i) rfl
                        have y3 := HY.get 3 (.bool V.r) rfl
                        have y4 := HY.get 4 (.string V.d) rfl
                        have y6 := HY.get 6 (.int .i64 2) rfl
                        have y7 := HY.get 7 (.bool V.e) rfl
                        have y8 := HY.get 8 (.int .u32 V.i) rfl
                        have y9 := HY.get 9 (.bool V.r) rfl
                        have y10 := HY.get 10 (.string V.d) rfl
                        have HY := hid HY
                        have f0 := HX.out.b3.frozen 0
                        have f1 := HX.out.b3.frozen 1
                        have f2 := HX.out.b3.frozen 2
                        have f3 := HX.out.b3.frozen 3
                        obtain ⟨z0, z1, z2, z3⟩ := blk_fr HX.out.b3
                        rcases (show i = 0 ∨ i = 1 ∨ i = 2 by omega) with rfl | rfl | rfl
                        · go_wp2_with fail
                          exact ⟨⟨1, by omega, rfl, rfl, rfl, rfl, HX.out.won V, HY.out.kept (won_grown _ p3 V) (fun i e => by injection e with e; omega)⟩, by simp [intOf]⟩
                        · go_wp2_with fail
                          exact ⟨⟨2, by omega, rfl, rfl, rfl, rfl, HX.out.won V, HY.out.kept (won_grown _ p3 V) (fun i e => by injection e with e; omega)⟩, by simp [intOf]⟩
                        · clear y0 y1 y2 y3 y4 y6 y7 y8 y9 y10 f0 f1 f2 f3 z0 z1 z2 z3
                          go_wp2_with fail
                          go_roundw
                          case rel => exact ⟨j + 1, by omega, by go_num, by rw [eg], by rw [el], by rw [es]; rfl, by rw [ev]; exact HX.out⟩
                          case measure => simp [intOf]; omega
                    · have eg : loG n (j + 1) = loG n j := by unfold loG; rw [if_pos (by omega), if_pos (by omega)]
                      have el : loL D (j + 1) = loL D j := by have := HF.out.d1; unfold loL; rw [if_pos (by omega), if_pos (by omega)]
                      have es : loS n (j + 1) = 1 := by unfold loS; rw [if_pos (by omega)]
                      have ev : loV V n (j + 1) = loV V n j := by unfold loV; rw [if_pos (by omega), if_pos (by omega)]
                      rw [HF.out.l1 j h] at hEV
                      obtain ⟨q, cap, rfl, _, hel⟩ := evs_some hEV (by simp)
                      have HE := hid hel
                      clear hEV hel
                      simp only [List.length_cons, List.length_nil]
                      go_wp2_with fail
                      go_loopw [10, 11, 12, 17] (fun g l s k wr => ∃ i : Nat, i ≤ 1 ∧ k = .int .i64 i ∧ g = .int .i64 (loG n j) ∧ l = .int .i64 (loL D j) ∧ s = .int .i64 i ∧ L4 w wr p p2 gx gy gt p3 a b (loV V n j) (x (j + 1)) (y (j + 1)) (t (j + 1)) ∧ EL wr q [⟨1, V, 0⟩]) (fun _ _ _ k _ => 1 - (intOf k).toNat)
                      case atStart => exact ⟨0, by omega, rfl, rfl, rfl, rfl, H11.out, HE.out⟩
                      case round =>
                        clear H11 HE
                        obtain ⟨i, hi, rfl, rfl, rfl, rfl, HX, HY⟩ := hrel
                        have HX := hid HX
                        have y0 := HY.get 0 (.int .i64 1) rfl
                        have HY := hid HY
                        rcases (show i = 0 ∨ i = 1 by omega) with rfl | rfl
                        · go_wp2_with fail
                          go_roundw
                          case rel => exact ⟨1, by omega, by go_num, rfl, rfl, by go_num, HX.out, HY.out⟩
                          case measure => simp [intOf]
                        · go_wp2_with fail
                          go_roundw
                          case rel => exact ⟨j + 1, by omega, by go_num, by rw [eg], by rw [el], by rw [es], by rw [ev]; exact HX.out⟩
                          case measure => simp [intOf]; omega
                    · have eg : loG n (j + 1) = loG n j := by
                        unfold loG
                        by_cases hz : n ≤ j + 1
                        · rw [if_pos (by omega), if_pos hz]
                        · rw [if_neg (by omega), if_neg hz]
                      have el : loL D (j + 1) = loL D j := by
                        unfold loL
                        by_cases hz : D < j
                        · rw [if_pos (by omega), if_pos hz]
                        · rw [if_neg (by omega), if_neg hz]
                      have es : loS n (j + 1) = 0 := by unfold loS; rw [if_neg (by omega)]
                      have ev : loV V n (j + 1) = loV V n j := by
                        unfold loV
                        by_cases hz : n ≤ j + 1
                        · rw [if_pos (by omega), if_pos hz]
                        · rw [if_neg (by omega), if_neg hz]
                      rw [HF.out.ln j h0 hD h2 h1 hlt] at hEV
                      obtain ⟨aa, cap, rfl⟩ := evs_none hEV
                      clear hEV
                      go_wp2_with fail
                      go_loopw [10, 11, 12, 17] (fun g l s k wr => k = .int .i64 0 ∧ g = .int .i64 (loG n j) ∧ l = .int .i64 (loL D j) ∧ s = .int .i64 0 ∧ L4 w wr p p2 gx gy gt p3 a b (loV V n j) (x (j + 1)) (y (j + 1)) (t (j + 1))) (fun _ _ _ _ _ => 0)
                      case atStart => exact ⟨rfl, rfl, rfl, rfl, H11.out⟩
                      case round =>
                        clear H11
                        obtain ⟨rfl, rfl, rfl, rfl, HX⟩ := hrel
                        have HX := hid HX
                        go_wp2_with fail
                        go_roundw
                        case rel => exact ⟨j + 1, by omega, by go_num, by rw [eg], by rw [el], by rw [es]; rfl, by rw [ev]; exact HX.out⟩
                        case measure => simp [intOf]; omega
              · obtain rfl : j = n := by omega
                have eg : loG j j = 2 := by unfold loG; rw [if_pos (by omega)]
                have el : loL D j = 1 := by have := HF.out.d1; unfold loL; rw [if_pos (by omega)]
                have es : loS j j = 1 := by unfold loS; rw [if_pos rfl]
                have ev : loV V j j = V := by unfold loV; rw [if_pos (by omega)]
                rw [eg, el, es]
                have h4 := H4.out
                rw [ev] at h4
                have H5 := hid h4
                clear H4 h4 eg el es ev hj hlt
                have u0 : ((j : Int) < 220) = True := eq_true (by omega)
                have u1 : decide ((j : Int) < 220) = true := decide_eq_true (by omega)
                have u3 : (j < 220) = True := eq_true (by omega)
                obtain ⟨x0, x1, x2, x3⟩ := blk_fr H5.out.l2.b1
                obtain ⟨y0, y1, y2, y3⟩ := blk_fr H5.out.l2.b2
                obtain ⟨z0, z1, z2, z3⟩ := blk_fr H5.out.b3
                rcases HF.out.v with hv | hv
                · rw [hv] at z0 z1 z2 z3
                  go_wp2_with fail
                  go_ret
                  exact ⟨rfl, by subst hp; exact H5.out.l2.nx.nd.below⟩
                · rw [hv] at z0 z1 z2 z3
                  obtain ⟨zz, hzz⟩ : ∃ zz, (b.e == a.e && (b.i == a.i && (b.r == a.r && (b.d.toList == a.d.toList)))) = zz := ⟨_, rfl⟩
                  cases zz
                  · go_wp2_with fail
                    go_ret
                    exact ⟨rfl, by subst hp; exact H5.out.l2.nx.nd.below⟩
                  · go_wp2_with fail
                    go_ret
                    exact ⟨rfl, by subst hp; exact H5.out.l2.nx.nd.below⟩
theorem loses_walk (e1 : Bool) (i1 : Int) (r1 : Bool) (d1 : ByteArray) (e2 : Bool) (i2 : Int) (r2 : Bool) (d2 : ByteArray) (w : World) (h1 : (Lit.int .u32 i1).wf = true) (_ : d1.size ≤ 9223372036854775807) (h2 : (Lit.int .u32 i2).wf = true) (_ : d2.size ≤ 9223372036854775807) :
    Calls Try.prog 4 #[.agg #[.bool e1, .int .u32 i1, .bool r1, .string d1], .agg #[.bool e2, .int .u32 i2, .bool r2, .string d2]] w fun e w' => e = .returned (.bool true) ∧ Below w.heap.size w w' :=
  loses_calls ⟨e1, i1, r1, d1⟩ ⟨e2, i2, r2, d2⟩ w (by have := bounds_u32 h1; unfold Fm.wf; simp only; omega) (by have := bounds_u32 h2; unfold Fm.wf; simp only; omega)
end Go.Proofs.Ytgmjofcbdimjgaa.MacL
