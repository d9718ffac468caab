/- The document's reader: NewReader, Decode; the document's Encode. -/
import Derived.Test.YtkdnldoebghclaaRefN
import Derived.Test.YtkdnldoebghclaaCodeLink
namespace Go.Proofs.Ytkdnldoebghclaa.RefW
set_option linter.unusedVariables false
set_option linter.unusedSimpArgs false
open Go Go.RowKit Go.Proofs.Ytkdnldoebghclaa.Lib Go.Proofs.Ytkdnldoebghclaa.Bits Go.Proofs.Ytkdnldoebghclaa.BitsW Go.Proofs.Ytkdnldoebghclaa.StuffW Go.Proofs.Ytkdnldoebghclaa.Frame Go.Proofs.Ytkdnldoebghclaa.FrameW Go.Proofs.Ytkdnldoebghclaa.Code Go.Proofs.Ytkdnldoebghclaa.CodeW Go.Proofs.YtkdnldoebghclaaW.PrintMore
attribute [local go_sem] max2_int min2_int max_two min_two
set_option maxRecDepth 100000 in
set_option maxHeartbeats 6400000 in
theorem rnew_calls (w : World) : Calls Try.prog 38 #[] w fun e w' => ∃ g, e = .returned (.pointer (some ⟨g, 0, none⟩)) ∧ w.heap.size ≤ g ∧ Blk w' g 62 (R3.cells R3.new) ∧ Below w.heap.size w w' := by
  have H1 : Blk (w.alloc (.cells #[.string ⟨#[]⟩, .string ⟨#[]⟩, .string ⟨#[]⟩, .int .i64 (-1), .int .i64 (-1), .bool false, .int .u32 0, .bool false, .string ⟨#[]⟩] 62)) w.heap.size 62 (R3.cells R3.new) := Blk.new w (R3.cells R3.new) 62
  have HB := (Below.refl w.heap.size w).alloc (Nat.le_refl _) (.cells #[.string ⟨#[]⟩, .string ⟨#[]⟩, .string ⟨#[]⟩, .int .i64 (-1), .int .i64 (-1), .bool false, .int .u32 0, .bool false, .string ⟨#[]⟩] 62)
  go_enter Try.func38, Try.ntmps38
  go_wp2_with fail
  go_ret
  exact ⟨w.heap.size, rfl, Nat.le_refl _, H1, HB⟩
/-- A reader that has taken so many bits. -/
structure R3.Bd (q : R3) (k : Nat) : Prop where
  S : q.S.length ≤ k
  plain : q.plain.length ≤ k
  run : q.run.length ≤ k
  tail : q.tail ≤ k
  want : q.want ≤ 103
theorem R3.Bd.last {q : R3} {k : Nat} (h : R3.Bd q k) : R3.Bd q.last k := by
  unfold R3.last
  split
  · exact ⟨h.S, h.plain, h.run, by show (0 : Int) ≤ k; omega, h.want⟩
  · exact h
theorem R3.Bd.parse {q : R3} {k : Nat} (h : R3.Bd q k) : R3.Bd q.parse.1 k := by
  unfold R3.parse
  split
  · split
    · exact h
    · split
      · exact ⟨h.S, h.plain, h.run, h.tail, by have := parse_max q.plain; show ((parseL q.plain).2.1 : Int) ≤ 103; omega⟩
      · exact h
  · exact h
theorem R3.Bd.next {q : R3} {k : Nat} (h : R3.Bd q k) (c : Bool) : R3.Bd (q.next c).1 (k + 1) := by
  have hS : (q.S ++ [c]).length ≤ k + 1 := by have := h.S; simp; omega
  have hp : (q.plain ++ [c]).length ≤ k + 1 := by have := h.plain; simp; omega
  have hr : (q.run ++ [c]).length ≤ k + 1 := by have := h.run; simp; omega
  have hp0 : q.plain.length ≤ k + 1 := by have := h.plain; omega
  have hr0 : q.run.length ≤ k + 1 := by have := h.run; omega
  have ht : q.tail ≤ ((k + 1 : Nat) : Int) := by have := h.tail; omega
  have hw := h.want
  unfold R3.next
  split
  · exact ⟨hS, hp0, hr0, by have := h.tail; show q.tail + 1 ≤ ((k + 1 : Nat) : Int); omega, hw⟩
  · split
    · exact ⟨hS, hp0, hr, ht, hw⟩
    · split
      · exact R3.Bd.last ⟨hS, hp0, hr, ht, hw⟩
      · split
        · exact R3.Bd.parse (q := { q with S := q.S ++ [c], run := q.run ++ [c], plain := q.plain ++ [c] }) ⟨hS, hp, hr, ht, hw⟩
        · exact R3.Bd.last (R3.Bd.parse (q := { q with S := q.S ++ [c], run := q.run ++ [c], plain := q.plain ++ [c] }) ⟨hS, hp, hr, ht, hw⟩)
theorem new_bd : R3.Bd R3.new 0 := ⟨Nat.le_refl _, Nat.le_refl _, Nat.le_refl _, by decide, by decide⟩
/-- What is known at a round. -/
structure RdecAt (s : ByteArray) (w wr : World) (fr rg k : Nat) (q : R3) : Prop where
  rd : Blk wr rg 62 (R3.cells q)
  bd : R3.Bd q k
  res : Blk wr fr 24 [.bool false, .int .u32 0, .bool false, .string ⟨#[]⟩]
  below : Below w.heap.size w wr
  law : decode3 R3.new 0 (bitsOf s) = decode3 q k ((bitsOf s).drop k)
set_option maxRecDepth 100000 in
set_option maxHeartbeats 6400000 in
theorem rdecode_calls (s : ByteArray) (w : World) (hs : s.size ≤ 9000) :
    Calls Try.prog 21 #[.string s] w fun x w' => x = .returned (.tuple #[.agg #[.bool (decode3 R3.new 0 (bitsOf s)).1.1, .int .u32 (decode3 R3.new 0 (bitsOf s)).1.2.1, .bool (decode3 R3.new 0 (bitsOf s)).1.2.2.1, .string ⟨(decode3 R3.new 0 (bitsOf s)).1.2.2.2.toArray⟩],
      .int .i64 (decode3 R3.new 0 (bitsOf s)).2.1, .int .i64 (decode3 R3.new 0 (bitsOf s)).2.2]) ∧ Below w.heap.size w w' := by
  have HF1 := Blk.new w [.bool false, .int .u32 0, .bool false, .string ⟨#[]⟩] 24
  have HB1 := (Below.refl w.heap.size w).alloc (Nat.le_refl _) (.cells #[.bool false, .int .u32 0, .bool false, .string ⟨#[]⟩] 24)
  obtain ⟨q, hq⟩ : ∃ q, decode3 R3.new 0 (bitsOf s) = q := ⟨_, rfl⟩
  rw [hq]
  have HQ := hid hq
  have hbs := bitsOf_length s
  clear hq
  obtain ⟨⟨qe, qn, qr, qd⟩, qi, qc⟩ := q
  obtain ⟨fr, hfr⟩ : ∃ fr, fr = w.heap.size := ⟨_, rfl⟩
  have hge : w.heap.size ≤ fr := by omega
  go_enter Try.func21, Try.ntmps21
  go_wp2_with fail
  refine (rnew_calls _).mono ?_
  rintro e w1 ⟨rg, rfl, hrg, hR1, hb⟩
  rw [← hfr] at HF1
  have eg : w.heap.size = fr := hfr.symm
  have HF2 := HF1.below hb
  have HB2 := HB1.trans (hb.mono HB1.size)
  have hrg1 : w.heap.size ≤ rg := Nat.le_trans HB1.size hrg
  have HD : RdecAt s w w1 fr rg 0 R3.new := ⟨hR1, new_bd, HF2, HB2, by rw [List.drop_zero]⟩
  rw [eg]
  have HRG := hid hrg1
  have HGE := hid hge
  clear hb HF1 HB1 HF2 HB2 hR1 hfr eg hrg hrg1 hge
  go_wp2_with fail
  go_loopw [6] (fun i wr => ∃ (k : Nat) (r : R3), k ≤ s.size ∧ i = .int .i64 k ∧ RdecAt s w wr fr rg k r) (fun i _ => s.size - (intOf i).toNat)
  case atStart => exact ⟨0, R3.new, Nat.zero_le _, rfl, HD⟩
  case round =>
    clear HD
    obtain ⟨k, r, hk, rfl, HD⟩ := hrel
    by_cases hlt : k < s.size
    · have hbd := HD.bd
      obtain ⟨c, hc⟩ : ∃ c, (bitsOf s).getD k false = c := ⟨_, rfl⟩
      have hbit := bit_at s k hlt
      rw [hc] at hbit
      have hdrop : (bitsOf s).drop k = c :: (bitsOf s).drop (k + 1) := by
        rw [List.drop_eq_getElem_cons (by omega), ← hc, List.getD_eq_getElem?_getD, List.getElem?_eq_getElem (by omega), Option.getD_some]
      have hlaw := HD.law
      rw [hdrop, HQ.out, decode3] at hlaw
      have HRES := hid HD.res
      have HBEL := hid HD.below
      have k0 : (0 : Int) ≤ (k : Int) := Int.natCast_nonneg _
      have k1 : (k : Int) ≤ 9000 := by omega
      have hfin := HRES.out.ne HD.rd (by decide)
      have HFR := hid (fun h : fr = rg => hfin h)
      have HP := hid (rnext3_calls rg r c ((s[k]'hlt).toNat : Int) wr HD.rd hbit (by have := hbd.S; omega) (by have := hbd.plain; omega) (by have := hbd.run; omega) (by have := hbd.tail; omega) (by have := hbd.want; omega))
      have HNB := hid (hbd.next c)
      have HLAW := hid hlaw
      clear HD hc hdrop hlaw hbd hbit hfin
      generalize hyy : ((s[k]'hlt).toNat : Int) = y at *
      generalize hpc : r.next c = P at *
      obtain ⟨r', err⟩ := P
      simp only at HP HNB HLAW
      go_wp2_with fail
      with_reducible refine HP.out.mono ?_
      rintro e w2 ⟨rfl, hb2, hg2⟩
      have hres2 := HRES.out.grown hg2 (by intro h; cases h; exact HFR.out rfl)
      have hbel2 := HBEL.out.grown hg2 HBEL.out.size (fun j h => by cases h; exact HRG.out)
      have hlaw := HLAW.out
      by_cases h1 : err = 1
      · subst h1
        rw [if_pos rfl] at hlaw
        have c5 := hb2.cell 5
        have c6 := hb2.cell 6
        have c7 := hb2.cell 7
        have c8 := hb2.cell 8
        simp only [R3.cells, List.getElem?_cons_zero, List.getElem?_cons_succ] at c5 c6 c7 c8
        obtain ⟨hF, h2⟩ := Prod.mk.inj hlaw
        obtain ⟨rfl, rfl⟩ := Prod.mk.inj h2
        rw [← hF] at c5 c6 c7 c8
        obtain ⟨y0, y1, y2, y3⟩ := frame_res hres2
        obtain ⟨f0, f1, f2, f3⟩ := frame_free hres2
        have hz := frame_res (set4_blk hres2 qe qn qr ⟨qd.toArray⟩)
        have hbz := set4_below hbel2 (by exact HGE.out) qe qn qr ⟨qd.toArray⟩
        unfold set4 at hz hbz
        have HZ := hid hz
        have HBZ := hid hbz
        clear hz hbz hres2 hbel2 hlaw h2 hF hb2 hg2
        go_wp2_with fail
        obtain ⟨z0, z1, z2, z3⟩ := HZ.out
        exact bodyPost_ret (v := .tuple #[.agg #[.bool qe, .int .u32 qn, .bool qr, .string ⟨qd.toArray⟩], .int .i64 ((k + 1 : Nat) : Int), .int .i64 0]) (by simp [results, Try.results21, go_sem, z0, z1, z2, z3]) rfl ⟨rfl, HBZ.out⟩
      · rw [if_neg h1] at hlaw
        have t1 : ((err : Int) == 1) = false := by rw [beq_eq_false_iff_ne]; omega
        have t2 : (err = 1) = False := eq_false h1
        by_cases h0 : err = 0
        · subst h0
          rw [if_neg (by simp)] at hlaw
          have HH := hid (show RdecAt s w w2 fr rg (k + 1) r' from ⟨hb2, HNB.out, hres2, hbel2, by rw [HQ.out]; exact hlaw⟩)
          clear hlaw hres2 hbel2 hb2 hg2
          go_wp2_with fail
          go_roundw
          case rel => exact ⟨k + 1, r', by omega, by go_num, HH.out⟩
          case measure => simp [intOf]; omega
        · rw [if_pos h0] at hlaw
          have t3 : ((err : Int) != 0) = true := by rw [bne_iff_ne]; omega
          have t4 : (err = 0) = False := eq_false h0
          cases hlaw
          obtain ⟨y0, y1, y2, y3⟩ := frame_res hres2
          obtain ⟨f0, f1, f2, f3⟩ := frame_free hres2
          have hz := frame_res (set4_blk hres2 false 0 false ⟨#[]⟩)
          have hbz := set4_below hbel2 (by exact HGE.out) false 0 false ⟨#[]⟩
          unfold set4 at hz hbz
          have HZ := hid hz
          have HBZ := hid hbz
          clear hz hbz hres2 hbel2 hb2 hg2
          go_wp2_with fail
          obtain ⟨z0, z1, z2, z3⟩ := HZ.out
          exact bodyPost_ret (v := .tuple #[.agg #[.bool false, .int .u32 0, .bool false, .string ⟨#[]⟩], .int .i64 (qi : Int), .int .i64 (qc : Int)]) (by simp [results, Try.results21, go_sem, z0, z1, z2, z3]) rfl ⟨rfl, HBZ.out⟩
    · obtain rfl : k = s.size := by omega
      have hlaw := HD.law
      rw [List.drop_of_length_le (by omega), HQ.out] at hlaw
      obtain ⟨y0, y1, y2, y3⟩ := frame_res HD.res
      obtain ⟨f0, f1, f2, f3⟩ := frame_free HD.res
      have hz := frame_res (set4_blk HD.res false 0 false ⟨#[]⟩)
      have hbz := set4_below HD.below (by exact HGE.out) false 0 false ⟨#[]⟩
      unfold set4 at hz hbz
      have HZ := hid hz
      have HBZ := hid hbz
      obtain ⟨⟨rfl, rfl, rfl, rfl⟩, rfl, rfl⟩ : (qe = false ∧ qn = 0 ∧ qr = false ∧ qd = []) ∧ qi = s.size ∧ qc = 10 := by
        simp [decode3] at hlaw
        exact ⟨⟨hlaw.1.1, hlaw.1.2.1, hlaw.1.2.2.1, hlaw.1.2.2.2⟩, hlaw.2.1, hlaw.2.2⟩
      clear hz hbz hlaw HD
      go_wp2_with fail
      obtain ⟨z0, z1, z2, z3⟩ := HZ.out
      exact bodyPost_ret (v := .tuple #[.agg #[.bool false, .int .u32 0, .bool false, .string ⟨#[]⟩], .int .i64 (s.size : Int), .int .i64 10]) (by simp [results, Try.results21, go_sem, z0, z1, z2, z3]) rfl ⟨rfl, HBZ.out⟩
set_option maxRecDepth 100000 in
set_option maxHeartbeats 6400000 in
theorem rencode_calls (e : Bool) (i : Int) (r : Bool) (d : ByteArray) (w : World) (b1 : 0 ≤ i ∧ i < 4294967296) :
    Calls Try.prog 15 #[.agg #[.bool e, .int .u32 i, .bool r, .string d]] w fun x w' => x = .returned (.string (codeF e i r d)) ∧ Below w.heap.size w w' := by
  have hF := Blk.new w [.bool e, .int .u32 i, .bool r, .string d] 24
  have hB := (Below.refl w.heap.size w).alloc (Nat.le_refl _) (.cells #[.bool e, .int .u32 i, .bool r, .string d] 24)
  obtain ⟨x0, x1, x2, x3⟩ := frame_res hF
  have HIS := hid (fun (W : World) => Plug.ostinatoref3_Is.calls e i r d _ W rfl)
  have HBO := hid (fun (W : World) => Plug.ostinatoref3_Body.calls e i r d _ W (by unfold Plug.ostinatoref3_Body.f; rw [if_pos b1]))
  unfold codeF
  unfold bodyF at HBO
  cases hk : okF e i r d
  · rw [hk] at HIS
    rw [if_neg (by simp)]
    go_enter Try.func15, Try.ntmps15
    go_wp2_with fail
    refine (HIS.out _).mono ?_
    rintro y w1 ⟨rfl, hb⟩
    have hB := hB.trans (hb.mono hB.size)
    go_wp2_with fail
    go_ret
    exact ⟨rfl, hB⟩
  · rw [hk] at HIS
    rw [if_pos rfl]
    rw [hk, if_pos rfl] at HBO
    have hd8 := FrameEq.okF_size _ _ _ _ hk
    have hds := size_list d
    have hbl := bodyL_length e i.toNat r d.data.toList
    unfold codeL sumL
    have hbl2 : (bodyL e i.toNat r d.data.toList).length ≤ 103 := by rw [hbl]; split <;> omega
    generalize bodyL e i.toNat r d.data.toList = L at *
    have hL : (B L).size = L.length := B_size L
    have hcl := crcN_lt L
    have HC := hid (fun (W : World) => Plug.ostinatoref1_CRC.calls (B L) _ W (by unfold Plug.ostinatoref1_CRC.f; rw [if_pos (by omega)]))
    rw [bitsOf_B] at HC
    have HO := hid (fun (W : World) => Plug.ostinatoref1_Of.calls (crcN L : Int) 15 (B (ofN (crcN L) 15)) W (by
      unfold Plug.ostinatoref1_Of.f
      rw [if_pos ⟨by omega, by omega⟩, Int.toNat_natCast]
      rfl))
    have hsz2 : (B L ++ B (ofN (crcN L) 15)).size ≤ 200 := by rw [ByteArray.size_append, B_size, B_size, ofN_length]; omega
    have hsz3 : (B (ofN (crcN L) 15)).size = 15 := by rw [B_size, ofN_length]
    have HS := hid (fun (W : World) => rstuff_calls (B L ++ B (ofN (crcN L) 15)) (by omega) W)
    have happ : bitsOf (B L ++ B (ofN (crcN L) 15)) = L ++ ofN (crcN L) 15 := by rw [B_append, bitsOf_B]
    rw [happ] at HS
    have hst := Facts.stuff_len (L ++ ofN (crcN L) 15)
    have hsz4 : (B (stuff (L ++ ofN (crcN L) 15))).size ≤ 300 := by rw [B_size]; rw [List.length_append, ofN_length] at hst; omega
    have hend : B (stuff (L ++ ofN (crcN L) 15)) ++ ⟨#[49, 49, 49, 49, 49, 49, 49, 49, 49, 49]⟩ = B (stuff (L ++ ofN (crcN L) 15) ++ List.replicate 10 true) := by
      rw [← B_append]; rfl
    rw [← hend]
    have u1 : IntKind.u64.wrap (crcN L : Int) = (crcN L : Int) := wrap_u64 _ (by omega)
    have u2 : (B L).size ≤ 103 := by omega
    have z1 : (9223372036854775807 < (B L).size + 15) = False := eq_false (by omega)
    have z2 : (9223372036854775807 < (B (stuff (L ++ ofN (crcN L) 15))).size + 10) = False := eq_false (by omega)
    generalize B (stuff (L ++ ofN (crcN L) 15)) = SS at *
    generalize B (ofN (crcN L) 15) = OO at *
    generalize crcN L = C at *
    generalize B L = P at *
    clear hst hbl hbl2 hL hds hd8 hk happ hend
    go_enter Try.func15, Try.ntmps15
    go_wp2_with fail
    refine (HIS.out _).mono ?_
    rintro y w1 ⟨rfl, hb⟩
    have hB := hB.trans (hb.mono hB.size)
    have hF := hF.below hb
    obtain ⟨x0, x1, x2, x3⟩ := frame_res hF
    clear hb
    go_wp2_with fail
    refine (HBO.out _).mono ?_
    rintro y w2 ⟨rfl, hb⟩
    have hB := hB.trans (hb.mono hB.size)
    clear hb hF x0 x1 x2 x3
    go_wp2_with fail
    refine (HC.out _).mono ?_
    rintro y w3 ⟨rfl, hb⟩
    have hB := hB.trans (hb.below.mono hB.size)
    clear hb
    go_wp2_with fail
    refine (HO.out _).mono ?_
    rintro y w4 ⟨rfl, hb⟩
    have hB := hB.trans (hb.mono hB.size)
    clear hb
    go_wp2_with fail
    refine (HS.out _).mono ?_
    rintro y w5 ⟨rfl, hb⟩
    have hB := hB.trans (hb.mono hB.size)
    clear hb
    go_wp2_with fail
    go_ret
    exact ⟨rfl, hB⟩
end Go.Proofs.Ytkdnldoebghclaa.RefW
