/- The document's reader: NewReader, Decode; the document's Encode. -/
import Derived.Test.YtpkpnaedacefaaaGreatRefN
import Derived.Test.YtpkpnaedacefaaaGreatCodeLink
namespace Go.Proofs.YtpkpnaedacefaaaGreat.RefW
set_option linter.unusedVariables false
set_option linter.unusedSimpArgs false
open Go Go.RowKit Go.Proofs.YtpkpnaedacefaaaGreat.Lib Go.Proofs.YtpkpnaedacefaaaGreat.Bits Go.Proofs.YtpkpnaedacefaaaGreat.BitsW Go.Proofs.YtpkpnaedacefaaaGreat.StuffW Go.Proofs.YtpkpnaedacefaaaGreat.Frame Go.Proofs.YtpkpnaedacefaaaGreat.FrameW Go.Proofs.YtpkpnaedacefaaaGreat.Code Go.Proofs.YtpkpnaedacefaaaGreat.CodeW Go.Proofs.YtpkpnaedacefaaaGreat.PrintMore
attribute [local go_sem] max2_int min2_int max_two min_two
set_option maxRecDepth 100000 in
set_option maxHeartbeats 6400000 in
theorem rnew_calls (w : World) : Calls Tryz.prog 33 #[] w fun e w' => ∃ g, e = .returned (.pointer (some ⟨g, 0, none⟩)) ∧ w.heap.size ≤ g ∧ Blk w' g 93 (R3.cells R3.new) ∧ Below w.heap.size w w' := by
  have H1 : Blk (w.alloc (.cells #[.string ⟨#[]⟩, .string ⟨#[]⟩, .string ⟨#[]⟩, .int .i64 (-1), .int .i64 (-1), .bool false, .int .u32 0, .bool false, .string ⟨#[]⟩] 93)) w.heap.size 93 (R3.cells R3.new) := Blk.new w (R3.cells R3.new) 93
  have HB := (Below.refl w.heap.size w).alloc (Nat.le_refl _) (.cells #[.string ⟨#[]⟩, .string ⟨#[]⟩, .string ⟨#[]⟩, .int .i64 (-1), .int .i64 (-1), .bool false, .int .u32 0, .bool false, .string ⟨#[]⟩] 93)
  go_enter Tryz.func33, Tryz.ntmps33
  go_wp2_with fail
  go_ret
  exact ⟨w.heap.size, rfl, Nat.le_refl _, H1, HB⟩
/-- A reader that has taken so many bits. -/
structure R3.Bd (q : R3) (k : Nat) : Prop where
  S : q.S.length ≤ k
  plain : q.plain.length ≤ k
  run : q.run.length ≤ k
  tail : q.tail ≤ k
  want : q.want ≤ 103
theorem R3.Bd.last {q : R3} {k : Nat} (h : R3.Bd q k) : R3.Bd q.last k := by
  unfold R3.last
  split
  · exact ⟨h.S, h.plain, h.run, by show (0 : Int) ≤ k; omega, h.want⟩
  · exact h
theorem R3.Bd.parse {q : R3} {k : Nat} (h : R3.Bd q k) : R3.Bd q.parse.1 k := by
  unfold R3.parse
  split
  · split
    · exact h
    · split
      · exact ⟨h.S, h.plain, h.run, h.tail, by have := parse_max q.plain; show ((parseL q.plain).2.1 : Int) ≤ 103; omega⟩
      · exact h
  · exact h
theorem R3.Bd.next {q : R3} {k : Nat} (h : R3.Bd q k) (c : Bool) : R3.Bd (q.next c).1 (k + 1) := by
  have hS : (q.S ++ [c]).length ≤ k + 1 := by have := h.S; simp; omega
  have hp : (q.plain ++ [c]).length ≤ k + 1 := by have := h.plain; simp; omega
  have hr : (q.run ++ [c]).length ≤ k + 1 := by have := h.run; simp; omega
  have hp0 : q.plain.length ≤ k + 1 := by have := h.plain; omega
  have hr0 : q.run.length ≤ k + 1 := by have := h.run; omega
  have ht : q.tail ≤ ((k + 1 : Nat) : Int) := by have := h.tail; omega
  have hw := h.want
  unfold R3.next
  split
  · exact ⟨hS, hp0, hr0, by have := h.tail; show q.tail + 1 ≤ ((k + 1 : Nat) : Int); omega, hw⟩
  · split
    · exact ⟨hS, hp0, hr, ht, hw⟩
    · split
      · exact R3.Bd.last ⟨hS, hp0, hr, ht, hw⟩
      · split
        · exact R3.Bd.parse (q := { q with S := q.S ++ [c], run := q.run ++ [c], plain := q.plain ++ [c] }) ⟨hS, hp, hr, ht, hw⟩
        · exact R3.Bd.last (R3.Bd.parse (q := { q with S := q.S ++ [c], run := q.run ++ [c], plain := q.plain ++ [c] }) ⟨hS, hp, hr, ht, hw⟩)
theorem new_bd : R3.Bd R3.new 0 := ⟨Nat.le_refl _, Nat.le_refl _, Nat.le_refl _, by decide, by decide⟩
/-- What is known at a round. -/
structure RdecAt (s : ByteArray) (w wr : World) (fr rg k : Nat) (q : R3) : Prop where
  rd : Blk wr rg 93 (R3.cells q)
  bd : R3.Bd q k
  res : Blk wr fr 35 [.bool false, .int .u32 0, .bool false, .string ⟨#[]⟩]
  below : Below w.heap.size w wr
  law : decode3 R3.new 0 (bitsOf s) = decode3 q k ((bitsOf s).drop k)
set_option maxRecDepth 100000 in
set_option maxHeartbeats 6400000 in
theorem rencode_calls (e : Bool) (i : Int) (r : Bool) (d : ByteArray) (w : World) (b1 : 0 ≤ i ∧ i < 4294967296) :
    Calls Tryz.prog 69 #[.agg #[.bool e, .int .u32 i, .bool r, .string d]] w fun x w' => x = .returned (.string (codeF e i r d)) ∧ Below w.heap.size w w' := by
  have hF := Blk.new w [.bool e, .int .u32 i, .bool r, .string d] 35
  have hB := (Below.refl w.heap.size w).alloc (Nat.le_refl _) (.cells #[.bool e, .int .u32 i, .bool r, .string d] 35)
  obtain ⟨x0, x1, x2, x3⟩ := frame_res hF
  have HIS := hid (fun (W : World) => ris_calls e i r d W)
  have HBO := hid (fun (W : World) => rbody_calls e i r d W b1)
  unfold codeF
  unfold bodyF at HBO
  cases hk : okF e i r d
  · rw [hk] at HIS
    rw [if_neg (by simp)]
    go_enter Tryz.func69, Tryz.ntmps69
    go_wp2_with fail
    refine (HIS.out _).mono ?_
    rintro y w1 ⟨rfl, hb⟩
    have hB := hB.trans (hb.mono hB.size)
    go_wp2_with fail
    go_ret
    exact ⟨rfl, hB⟩
  · rw [hk] at HIS
    rw [if_pos rfl]
    rw [hk, if_pos rfl] at HBO
    have hd8 := FrameEq.okF_size _ _ _ _ hk
    have hds := size_list d
    have hbl := bodyL_length e i.toNat r d.data.toList
    unfold codeL sumL
    have hbl2 : (bodyL e i.toNat r d.data.toList).length ≤ 103 := by rw [hbl]; split <;> omega
    generalize bodyL e i.toNat r d.data.toList = L at *
    have hL : (B L).size = L.length := B_size L
    have hcl := crcN_lt L
    have HC := hid (fun (W : World) => rcrc_calls L (by omega) W)
    have HO := hid (fun (W : World) => (show Calls Tryz.prog 96 #[.int .u64 (crcN L : Int), .int .i64 15] W fun x w' => x = .returned (.string (B (ofN (crcN L) 15))) ∧ Below W.heap.size W w' from rof_calls (crcN L) 15 (by omega) (by decide) (by decide) W))
    have hsz2 : (B L ++ B (ofN (crcN L) 15)).size ≤ 200 := by rw [ByteArray.size_append, B_size, B_size, ofN_length]; omega
    have hsz3 : (B (ofN (crcN L) 15)).size = 15 := by rw [B_size, ofN_length]
    have HS := hid (fun (W : World) => rstuff_calls (B L ++ B (ofN (crcN L) 15)) (by omega) W)
    have happ : bitsOf (B L ++ B (ofN (crcN L) 15)) = L ++ ofN (crcN L) 15 := by rw [B_append, bitsOf_B]
    rw [happ] at HS
    have hst := Facts.stuff_len (L ++ ofN (crcN L) 15)
    have hsz4 : (B (stuff (L ++ ofN (crcN L) 15))).size ≤ 300 := by rw [B_size]; rw [List.length_append, ofN_length] at hst; omega
    have hend : B (stuff (L ++ ofN (crcN L) 15)) ++ ⟨#[49, 49, 49, 49, 49, 49, 49, 49, 49, 49]⟩ = B (stuff (L ++ ofN (crcN L) 15) ++ List.replicate 10 true) := by
      rw [← B_append]; rfl
    rw [← hend]
    have u1 : IntKind.u64.wrap (crcN L : Int) = (crcN L : Int) := wrap_u64 _ (by omega)
    have u2 : (B L).size ≤ 103 := by omega
    have z1 : (9223372036854775807 < (B L).size + 15) = False := eq_false (by omega)
    have z2 : (9223372036854775807 < (B (stuff (L ++ ofN (crcN L) 15))).size + 10) = False := eq_false (by omega)
    generalize B (stuff (L ++ ofN (crcN L) 15)) = SS at *
    generalize B (ofN (crcN L) 15) = OO at *
    generalize crcN L = C at *
    generalize B L = P at *
    clear hst hbl hbl2 hL hds hd8 hk happ hend
    go_enter Tryz.func69, Tryz.ntmps69
    go_wp2_with fail
    refine (HIS.out _).mono ?_
    rintro y w1 ⟨rfl, hb⟩
    have hB := hB.trans (hb.mono hB.size)
    have hF := hF.below hb
    obtain ⟨x0, x1, x2, x3⟩ := frame_res hF
    clear hb
    go_wp2_with fail
    refine (HBO.out _).mono ?_
    rintro y w2 ⟨rfl, hb⟩
    have hB := hB.trans (hb.mono hB.size)
    clear hb hF x0 x1 x2 x3
    go_wp2_with fail
    refine (HC.out _).mono ?_
    rintro y w3 ⟨rfl, hb⟩
    have hB := hB.trans (hb.mono hB.size)
    clear hb
    go_wp2_with fail
    refine (HO.out _).mono ?_
    rintro y w4 ⟨rfl, hb⟩
    have hB := hB.trans (hb.mono hB.size)
    clear hb
    go_wp2_with fail
    refine (HS.out _).mono ?_
    rintro y w5 ⟨rfl, hb⟩
    have hB := hB.trans (hb.mono hB.size)
    clear hb
    go_wp2_with fail
    go_ret
    exact ⟨rfl, hB⟩
end Go.Proofs.YtpkpnaedacefaaaGreat.RefW
