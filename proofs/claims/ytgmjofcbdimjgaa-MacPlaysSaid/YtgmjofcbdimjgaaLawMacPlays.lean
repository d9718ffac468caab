/- MacPlays (layer 7): every row of asks, cancels and bits on the wire: what the node drives, what it tells, its counters, behind each bit, as the document's node. Conditions: none beyond the types of the arguments; long rows are let pass. -/
import Derived.Test.YtgmjofcbdimjgaaRefMx
import Derived.Test.YtgmjofcbdimjgaaMacKnown
import Derived.ChangeArms
import Derived.DataReads
namespace Go.Proofs.Ytgmjofcbdimjgaa.MacR
set_option linter.unusedVariables false
set_option linter.unusedSimpArgs false
open Go Go.RowKit Go.Proofs.Ytgmjofcbdimjgaa.Lib Go.Proofs.Ytgmjofcbdimjgaa.Bits Go.Proofs.Ytgmjofcbdimjgaa.BitsW Go.Proofs.Ytgmjofcbdimjgaa.StuffW Go.Proofs.Ytgmjofcbdimjgaa.Frame Go.Proofs.Ytgmjofcbdimjgaa.FrameW Go.Proofs.Ytgmjofcbdimjgaa.Code Go.Proofs.Ytgmjofcbdimjgaa.CodeW Go.Proofs.Ytgmjofcbdimjgaa.CodeL Go.Proofs.Ytgmjofcbdimjgaa.Mac Go.Proofs.Ytgmjofcbdimjgaa.MacW Go.Proofs.Ytgmjofcbdimjgaa.MacL Go.Proofs.Ytgmjofcbdimjgaa.RefW Go.Proofs.Ytgmjofcbdimjgaa.PrintMore
attribute [local go_sem] max2_int min2_int max_two min_two
attribute [local go_sem] MacL.field_got MacL.field_sent
structure SD where
  what : Int
  f : Fm
  lev : ByteArray
attribute [local go_sem high] eqA39
/-- One step in memory. -/
structure Cl (W : World) (b o j : Nat) (s : SD) : Prop where
  x0 : W.cell? ⟨b, o + j * 6, none⟩ = some (.int .i64 s.what)
  x1 : W.cell? ⟨b, o + j * 6 + 1, none⟩ = some (.bool s.f.e)
  x2 : W.cell? ⟨b, o + j * 6 + 2, none⟩ = some (.int .u32 s.f.i)
  x3 : W.cell? ⟨b, o + j * 6 + 3, none⟩ = some (.bool s.f.r)
  x4 : W.cell? ⟨b, o + j * 6 + 4, none⟩ = some (.string s.f.d)
  x5 : W.cell? ⟨b, o + j * 6 + 5, none⟩ = some (.string s.lev)
theorem Cl.at {w W : World} {b o j : Nat} {s : SD} (h : Cl w b o j s) (hb : Below w.heap.size w W) : Cl W b o j s := by
  have k : ∀ i v, w.cell? ⟨b, i, none⟩ = some v → W.cell? ⟨b, i, none⟩ = some v := fun i v h => (hb.cell (World.block_lt_of_cell? w _ h)).trans h
  exact ⟨k _ _ h.x0, k _ _ h.x1, k _ _ h.x2, k _ _ h.x3, k _ _ h.x4, k _ _ h.x5⟩
theorem Cl.fr {W : World} {b o j : Nat} {s : SD} (h : Cl W b o j s) : W.cell? ⟨b, o + j * 6 + 1 + 1, none⟩ = some (.int .u32 s.f.i) ∧ W.cell? ⟨b, o + j * 6 + 1 + 2, none⟩ = some (.bool s.f.r) ∧ W.cell? ⟨b, o + j * 6 + 1 + 3, none⟩ = some (.string s.f.d) := ⟨h.x2, h.x3, h.x4⟩
/-- The steps, as they came. -/
structure Steps (w : World) (A : Option Addr) (n : Nat) (S : Nat → SD) : Prop where
  get : ∀ j, j < n → ∃ b o, A = some ⟨b, o, none⟩ ∧ Cl w b o j (S j)
  wf : ∀ j, j < n → (S j).f.wf
set_option maxRecDepth 100000 in
set_option maxHeartbeats 25600000 in
theorem plays_calls (A : Option Addr) (n cap : Nat) (S : Nat → SD) (w : World) (hS : Steps w A n S) : Calls Try.prog 12 #[.slice A n cap] w fun e w' => e = .returned (.bool true) ∧ Below w.heap.size w w' := by
  have HS := hid hS
  clear hS
  go_enter Try.func12, Try.ntmps12
  go_wp2_with fail
  with_reducible refine (known_calls _).mono ?_
  rintro y w1 ⟨rfl, hb⟩
  by_cases h16 : 16 < n
  · have u0 : (16 < (n : Int)) = True := eq_true (by omega)
    have u1 : decide (16 < (n : Int)) = true := decide_eq_true (by omega)
    have HB := hid hb
    clear hb h16
    go_wp2_with fail
    go_ret
    exact ⟨rfl, HB.out⟩
  · have u0 : (16 < (n : Int)) = False := eq_false (by omega)
    have u1 : decide (16 < (n : Int)) = false := decide_eq_false (by omega)
    have HB := hid hb
    have hn : n ≤ 16 := by omega
    have HN := hid hn
    clear hb h16 hn
    go_wp2_with fail
    with_reducible refine (nf_new HB.out).mono ?_
    rintro y w2 ⟨rfl, h2, hb2⟩
    have H2 := hid h2
    clear h2 hb2 HB
    generalize w1.heap.size = g at H2 ⊢
    go_wp2_with fail
    with_reducible refine (qnew_calls _).mono ?_
    rintro y w3 ⟨h, hr, rfl, hh, hhr, hqn, hqr, hb3⟩
    have hsz := H2.out.nd.below.size
    have H3 := hid (show PB w w3 g h hr M.new Q7.new 0 from ⟨H2.out.later hb3, hqn, hqr, Nat.le_trans hsz hh, Nat.le_trans hsz hhr, sim_new, qi_new⟩)
    clear hh hhr hqn hqr hb3 hsz H2 u0 u1
    go_wp2_with fail
    go_loopw [5] (fun i wr => ∃ (j : Nat) (hr : Nat) (m : M) (q : Q7), j ≤ n ∧ i = .int .i64 j ∧ PB w wr g h hr m q (200 * j)) (fun i _ => n - (intOf i).toNat)
    case atStart => exact ⟨0, hr, M.new, Q7.new, Nat.zero_le _, rfl, H3.out⟩
    case round =>
      clear H3
      obtain ⟨j, hr, m, q, hj, rfl, HX⟩ := hrel
      have H4 := hid HX
      clear HX
      by_cases hlt : j < n
      · have u0 : ((j : Int) < n) = True := eq_true (by omega)
        have u1 : decide ((j : Int) < n) = true := decide_eq_true (by omega)
        have u2 : IntKind.i64.wrap ((j : Int) + 1) = ((j + 1 : Nat) : Int) := by have := HN.out; rw [IntKind.wrap_i64]; omega
        have u3 : (j < n) = True := eq_true hlt
        obtain ⟨b, o, rfl, hcl⟩ := HS.out.get j hlt
        have HW := hid (HS.out.wf j hlt)
        generalize hs : S j = s at hcl HW
        have HCL := hid hcl
        clear hcl
        obtain ⟨x0, x1, x2, x3, x4, x5⟩ := HCL.out.at H4.out.below
        have HSJ := hid hs
        clear hs
        have HP := hid (show n ≤ 16 ∧ j < n from ⟨HN.out, hlt⟩)
        by_cases hbig : 200 < s.lev.size ∨ 20 < s.f.d.size
        · have HB := hid H4.out.below
          by_cases h2 : 200 < s.lev.size
          · have v0 : (200 < (s.lev.size : Int)) = True := eq_true (by omega)
            have v1 : decide (200 < (s.lev.size : Int)) = true := decide_eq_true (by omega)
            clear hbig
            go_wp2_with fail
            go_ret
            exact ⟨rfl, HB.out⟩
          · have v0 : (200 < (s.lev.size : Int)) = False := eq_false (by omega)
            have v1 : decide (200 < (s.lev.size : Int)) = false := decide_eq_false (by omega)
            have v2 : (20 < (s.f.d.size : Int)) = True := eq_true (by omega)
            have v3 : decide (20 < (s.f.d.size : Int)) = true := decide_eq_true (by omega)
            clear hbig
            go_wp2_with fail
            go_ret
            exact ⟨rfl, HB.out⟩
        · have v0 : (200 < (s.lev.size : Int)) = False := eq_false (by omega)
          have v1 : decide (200 < (s.lev.size : Int)) = false := decide_eq_false (by omega)
          have v2 : (20 < (s.f.d.size : Int)) = False := eq_false (by omega)
          have v3 : decide (20 < (s.f.d.size : Int)) = false := decide_eq_false (by omega)
          have HZ := hid (show s.lev.size ≤ 200 by omega)
--CUT
          clear hbig
          go_upto_block 2 with fail
          go_cut [5] (fun s5 wc => s5 = .int .i64 j ∧ ∃ hr m q, PB w wc g h hr m q (200 * j))
          case first =>
            by_cases w0 : s.what = 0
            · have y0 : (s.what == 0) = true := by simp [w0]
              have y1 : (s.what = 0) = True := eq_true w0
              have HSA := hid (sim_ask H4.out.sim s.f)
              have HQI := hid (qi_ask (f := s.f) H4.out.qi HW.out)
              clear w0
              obtain ⟨X, hX⟩ : ∃ X, (q.ask s.f).2 = X := ⟨_, rfl⟩
              have HC1 := hid (fun b γ W (hT : TA w g h hr m (m.ask s.f).1 q (q.ask s.f).1 b γ W) (h6 : b 6 = false) => TA.one HW.out (HSA.out.1.trans hX) hT h6)
              have HC2 := hid (fun b γ W (hT : TA w g h hr m (m.ask s.f).1 q (q.ask s.f).1 b γ W) (h6 : b 13 = false) => TA.two hX hT h6)
              clear hX
              go_wp2_with fail
              refine region_text (by kernel_rfl) (by kernel_rfl) (TA w g h hr m (m.ask s.f).1 q (q.ask s.f).1) ⟨H4.out.ph.drew⟩ ?_
              iterate 15 ((try simp only [Act.put, List.setIfInBounds_toArray, List.set_cons_zero, List.set_cons_succ]); first
                | (refine t_pure ?_ (fun _ => rfl) (fun b γ W hT => hT.up _ (by decide) (by decide)) (fun b γ W hT _ => ?_) ?_; rotate_left; · (obtain ⟨x0, x1, x2, x3, x4, x5⟩ := HCL.out.at hT.ph.nf.nd.below; obtain ⟨z2, z3, z4⟩ := (HCL.out.at hT.ph.nf.nd.below).fr; clear hT; go_simp; first | rfl | (simp; done)))
                | (refine t_call (.int .i64 X) (fun _ => rfl) (f := 20) (args := #[.pointer (some ⟨g, 0, none⟩), fv s.f]) ?_ HC1.out ?_; · (intro b γ W _ _; go_simp; first | rfl | done))
                | (refine t_call (.int .i64 X) (fun _ => rfl) (f := 31) (args := #[.pointer (some ⟨h, 0, none⟩), fv s.f]) ?_ HC2.out ?_; · (intro b γ W _ _; go_simp; first | rfl | done)))
              refine t_end ?_
              intro bq gq w5 hall h5
              (try simp only [Act.put, List.setIfInBounds_toArray, List.set_cons_zero, List.set_cons_succ])
              have hp := h5.ph
              rw [hall 6 (by decide), hall 13 (by decide), if_pos rfl, if_pos rfl] at hp
              have H5 := hid (hp.pb HSA.out.2 HQI.out)
              clear h5 hall hp H4 x0 x1 x2 x3 x4 x5
              go_wp2_with fail
              go_meet
              case rel => exact ⟨rfl, _, _, _, H5.out⟩
            · have y0 : (s.what == 0) = false := by simp [w0]
              have y1 : (s.what = 0) = False := eq_false w0
              by_cases w1 : s.what = 1
              · have y2 : (s.what == 1) = true := by simp [w1]
                have y3 : (s.what = 1) = True := eq_true w1
                have HSA := hid (sim_cancel H4.out.sim H4.out.nf.fine)
                have HQI := hid (qi_cancel H4.out.qi)
                clear w0 w1
                go_wp2_with fail
                with_reducible refine (nf_cancel H4.out.nf).mono ?_
                rintro y w5 ⟨rfl, h5, hg⟩
                have H5 := hid (H4.out.ph.mac h5 hg)
                clear H4 h5 hg x0 x1 x2 x3 x4 x5
                rw [HSA.out.1]
                go_wp2_with fail
                with_reducible refine (qcancel_calls h hr q _ H5.out.qn).mono ?_
                rintro y w6 ⟨rfl, h6⟩
                have H6 := hid ((H5.out.ref (qp_here H5.out.qr (rd_ne H5.out.qn H5.out.qr) h6 rfl)).pb HSA.out.2 HQI.out)
                clear H5 h6
                go_wp2_with fail
                go_meet
                case rel => exact ⟨rfl, _, _, _, H6.out⟩
              · have y2 : (s.what == 1) = false := by simp [w1]
                have y3 : (s.what = 1) = False := eq_false w1
                clear w0 w1
                go_wp2_with fail
                go_meet
                case rel => exact ⟨rfl, _, _, _, H4.out⟩
          case rest =>
            clear H4 x0 x1 x2 x3 x4 x5 v0 v1 v2 v3
            obtain ⟨rfl, hr, m, q, HX⟩ := hcut
            have H5 := hid HX
            clear HX
            have HZZ := hid (show s.lev.size ≤ 200 from HZ.out)
            obtain ⟨z, hz⟩ : ∃ z, s.lev.size = z := ⟨_, rfl⟩
            go_wp2_with fail
            go_loopw [6] (fun i wr => ∃ (k : Nat) (hr : Nat) (m : M) (q : Q7), k ≤ s.lev.size ∧ i = .int .i64 k ∧ PB w wr g h hr m q (200 * j + k)) (fun i _ => s.lev.size - (intOf i).toNat)
            case atStart => exact ⟨0, hr, m, q, Nat.zero_le _, rfl, H5.out⟩
            case round =>
              clear H5
              obtain ⟨k, hr, m, q, hk, rfl, HX⟩ := hrel
              have H6 := hid HX
              clear HX
              obtain ⟨x0, x1, x2, x3, x4, x5⟩ := HCL.out.at H6.out.below
              by_cases hkt : k < s.lev.size
              · have t0 : ((k : Int) < (s.lev.size : Int)) = True := eq_true (by omega)
                have t1 : decide ((k : Int) < (s.lev.size : Int)) = true := decide_eq_true (by omega)
                have t2 : IntKind.i64.wrap ((k : Int) + 1) = ((k + 1 : Nat) : Int) := by have := HZ.out; rw [IntKind.wrap_i64]; omega
                have t3 : (k < s.lev.size) = True := eq_true hkt
                have hqs := qs_of H6.out.nf.fine H6.out.sim H6.out.qi (by have := HP.out; have := HZ.out; omega)
                have HQS := hid hqs
                clear hqs
                go_wp2_with fail
                have hq := qdrive_calls h hr q wr H6.out.qn H6.out.qr (by have := HQS.out.qb.plain; omega) (by have := HQS.out.qb.want; omega) HQS.out.at_
                with_reducible refine hq.mono ?_
                clear hq
                rintro y w6 ⟨rfl, hb6⟩
                have H7 := hid (H6.out.later hb6)
                clear H6 hb6 x0 x1 x2 x3 x4 x5
                obtain ⟨x0, x1, x2, x3, x4, x5⟩ := HCL.out.at H7.out.below
                go_upto_if 89 with fail
                generalize (s.lev[k].toNat : Int) = Y
                obtain ⟨D, hD⟩ : ∃ D : Int, ((sg q.drive).toNat : Int) = D := ⟨_, rfl⟩
                have HD := hid hD
                rw [hD]
                clear hD
                go_cut [8] (fun s8 wc => ∃ x : Int, s8 = .int .u8 x ∧ PB w wc g h hr m q (200 * j + k))
                case first =>
                  by_cases e119 : Y = 119
                  · have y0 : (Y == 119) = true := by simp [e119]
                    have y1 : (Y = 119) = True := eq_true e119
                    clear e119
                    go_wp2_with fail
                    go_meet
                    case rel => exact ⟨_, rfl, H7.out⟩
                  · have y0 : (Y == 119) = false := by simp [e119]
                    have y1 : (Y = 119) = False := eq_false e119
                    clear e119
                    go_wp2_with fail
                    go_meet
                    case rel => exact ⟨_, rfl, H7.out⟩
                case rest =>
                  clear H7 x0 x1 x2 x3 x4 x5
                  obtain ⟨x, rfl, HX⟩ := hcut
                  have H8 := hid HX
                  clear HX
                  obtain ⟨c, hc⟩ : ∃ c : Bool, (x == 48) = !c := ⟨!(x == 48), by simp⟩
                  have hss := sim_sample H8.out.nf.fine H8.out.sim c
                  have hag := agree_sample H8.out.nf.fine H8.out.sim c
                  have hqi := qi_sample H8.out.sim H8.out.qi c
                  have hdr := (congrArg (fun z => ((sg z).toNat : Int)) (sim_drive H8.out.sim)).trans HD.out
                  obtain ⟨m', hm'⟩ : ∃ z, (m.sample c).1 = z := ⟨_, rfl⟩
                  obtain ⟨q', hq'⟩ : ∃ z, (q.sample c).1 = z := ⟨_, rfl⟩
                  obtain ⟨L, hL⟩ : ∃ z, (q.sample c).2 = z := ⟨_, rfl⟩
                  have hL' : (m.sample c).2 = L := hss.1.trans hL
                  rw [hm', hq'] at hss hag
                  rw [hq'] at hqi
                  rw [hL] at hag
                  have HSS := hid hss.2
                  have HAG := hid hag
                  have HQI := hid hqi
                  have HDR := hid hdr
                  have HC1 := hid (fun b γ W (hT : TT w g h m m' q q' L b γ W) (h7 : b 7 = false) => TT.one' hc hm' hL' hT h7)
                  have HC2 := hid (fun b γ W (hT : TT w g h m m' q q' L b γ W) (h10 : b 10 = false) => TT.two' hc HQS.out hq' hL hT h10)
                  clear hss hag hqi hdr hm' hq' hL hL' hc HD
                  obtain ⟨SS, hSS⟩ : ∃ z, q'.sent = z := ⟨_, rfl⟩
                  obtain ⟨SG, hSG⟩ : ∃ z, q'.got = z := ⟨_, rfl⟩
                  obtain ⟨SB, hSB⟩ : ∃ z, q'.busy = z := ⟨_, rfl⟩
                  obtain ⟨SI, hSI⟩ : ∃ z, (q'.st == 0) = z := ⟨_, rfl⟩
                  have H1S := hid hSS
                  have H1G := hid hSG
                  have H1B := hid hSB
                  have H1I := hid hSI
                  clear hSS hSG hSB hSI
                  go_upto_region 25 with fail
                  go_cut [130] (fun s130 wc => s130 = .bool false ∧ ∃ hr, PB w wc g h hr m' q' (200 * j + (k + 1)))
                  case first =>
                    refine region_textC (by kernel_rfl) (by kernel_rfl) (TT w g h m m' q q' L) ⟨⟨hr, H8.out.ph.drew⟩, fun e => absurd e Bool.false_ne_true, fun e => absurd e Bool.false_ne_true⟩ ?_
                    iterate 40 ((try simp only [Act.put, List.setIfInBounds_toArray, List.set_cons_zero, List.set_cons_succ]); first
                      | (refine c_skip rfl (fun _ => rfl) (fun b γ W hT => hT.up _ (by decide) (by decide)) ?_)
                      | (refine c_pure rfl ?_ (fun _ => rfl) (fun b γ W hT => hT.up _ (by decide) (by decide)) (fun b γ W _ hT _ => ?_) ?_; rotate_left; · (have yI := H1I.out; have yJ : decide (q'.st = 0) = SI := yI; clear hT; go_simp; first | rfl | (simp; done)))
                      | (refine c_call rfl (f := 17) (fun _ => #[.pointer (some ⟨g, 0, none⟩)]) (.int .u8 D) (fun _ => rfl) ?_ (fun b γ W hcl hT hb hj => ?_) ?_; (· intro b γ W _ _; go_simp; done); (· exact (hT.drive (by cases e : b 7; (· rfl); (· exact absurd (closed_reach hcl 4 7 1 (by kernel_rfl) e) (by rw [hb]; decide)))).mono fun e w' h12 => ⟨h12.1.trans (congrArg (fun z => Ending.returned (.int .u8 z)) HDR.out), h12.2⟩))
                      | (refine c_callN rfl (f := 16) #[.pointer (some ⟨g, 0, none⟩), .int .u8 x] (decV L.length) (fun _ => rfl) ?_ (fun b γ W _ hT hb _ => HC1.out b γ W hT hb) ?_; (· intro b γ W _ _; go_simp; done))
                      | (refine c_callN rfl (f := 35) #[.pointer (some ⟨h, 0, none⟩), .int .u8 x] (decV L.length) (fun _ => rfl) ?_ (fun b γ W _ hT hb _ => HC2.out b γ W hT hb) ?_; (· intro b γ W _ _; go_simp; done))
                      | (refine c_call rfl (f := 34) (fun γ => #[decV L.length (γ 7), decV L.length (γ 10)]) (.bool true) (fun _ => rfl) ?_ (fun b γ W hcl hT hb hj => hT.same (hj 7 (by decide)) (hj 10 (by decide)) HAG.out.len) ?_; (· intro b γ W _ _; go_simp; done))
                      | (refine c_call rfl (f := 22) (fun _ => #[.pointer (some ⟨g, 0, none⟩)]) (.agg #[.int .i64 SS, .int .i64 SG]) (fun _ => rfl) ?_ (fun b γ W hcl hT hb hj => hT.count (closed_reach hcl 8 14 7 (by kernel_rfl) (hj 14 (by decide))) (HAG.out.sent.trans H1S.out) (HAG.out.got.trans H1G.out)) ?_; (· intro b γ W _ _; go_simp; done))
                      | (refine c_call rfl (f := 19) (fun _ => #[.pointer (some ⟨g, 0, none⟩)]) (.bool SB) (fun _ => rfl) ?_ (fun b γ W hcl hT hb hj => hT.busy1 (closed_reach hcl 10 23 7 (by kernel_rfl) (hj 23 (by decide))) (HAG.out.busy.trans H1B.out)) ?_; (· intro b γ W _ _; go_simp; done))
                      | (refine c_call rfl (f := 36) (fun _ => #[.pointer (some ⟨h, 0, none⟩)]) (.bool SB) (fun _ => rfl) ?_ (fun b γ W hcl hT hb hj => hT.busy2 (closed_reach hcl 10 23 10 (by kernel_rfl) (hj 23 (by decide))) H1B.out) ?_; (· intro b γ W _ _; go_simp; done))
                      | (refine c_call rfl (f := 18) (fun _ => #[.pointer (some ⟨g, 0, none⟩)]) (.bool SI) (fun _ => rfl) ?_ (fun b γ W hcl hT hb hj => hT.idle (closed_reach hcl 12 30 7 (by kernel_rfl) (hj 30 (by decide))) (HAG.out.idle.trans H1I.out)) ?_; (· intro b γ W _ _; go_simp; done))
                      | (refine c_pure rfl ?_ (fun _ => rfl) (fun b γ W hT => hT.up _ (by decide) (by decide)) (fun b γ W hcl hT hj => ?_) ?_; rotate_left; · (have h10 : b 10 = true := (by first | exact closed_reach hcl 8 14 10 (by kernel_rfl) (hj 14 (by decide)) | exact closed_reach hcl 12 30 10 (by kernel_rfl) (hj 30 (by decide))); obtain ⟨hr', hp⟩ := hT.ph; rw [h10, if_pos rfl] at hp; have c14 := (MacR.hq hp.qn).sent; have c15 := (MacR.hq hp.qn).got; have c0 := (MacR.hq hp.qn).st; rw [H1S.out] at c14; rw [H1G.out] at c15; clear hT hp h10; go_simp; first | rfl | (simp; done))))
                    refine t_end ?_
                    intro bq gq w9 hall h9
                    (try simp only [Act.put, List.setIfInBounds_toArray, List.set_cons_zero, List.set_cons_succ])
                    obtain ⟨hr', hp⟩ := h9.2.ph
                    rw [hall 7 (by decide), hall 10 (by decide), if_pos rfl, if_pos rfl] at hp
                    have H9 := hid (hp.pb HSS.out HQI.out)
                    clear h9 hall hp H8
                    go_wp2_with fail
                    go_meet
                    case rel => exact ⟨rfl, _, H9.out⟩
                  case rest =>
                    obtain ⟨rfl, hr', HX⟩ := hcut
                    have H9 := hid HX
                    clear HX H8
                    go_wp2_with fail
                    go_roundw
                    case rel => exact ⟨k + 1, _, _, _, by omega, by go_num, H9.out⟩
                    case measure => simp [intOf]; omega
              · have HK := hid (show k ≤ 200 by have := HZ.out; omega)
                obtain rfl : k = s.lev.size := by omega
                clear hkt hk
                go_wp2_with fail
                go_roundw
                case rel => exact ⟨j + 1, _, _, _, by omega, by go_num, H6.out.nf, H6.out.qn, H6.out.qr, H6.out.lh, H6.out.lr, H6.out.sim, H6.out.qi.mono (by have := HK.out; omega)⟩
                case measure => simp [intOf]; omega
      · have u0 : ((j : Int) < n) = False := eq_false (by omega)
        have u1 : decide ((j : Int) < n) = false := decide_eq_false (by omega)
        have u3 : (j < n) = False := eq_false hlt
        have HJ := hid (show j ≤ 16 from by have := HN.out; omega)
        clear hlt hj
        go_wp2_with fail
        with_reducible refine (copy_calls g m wr H4.out.nf.nd.blk (by have := H4.out.nf.fine.rok.len; omega)).mono ?_
        rintro y w5 ⟨rfl, hcp, hb5⟩
        have l1 := H4.out.nf.nd.blk.lt
        have l2 := H4.out.qn.lt
        have l3 := H4.out.qr.lt
        have HL := hid (show wr.heap.size ≠ g ∧ wr.heap.size ≠ h ∧ wr.heap.size ≠ hr ∧ w.heap.size ≤ wr.heap.size from ⟨by omega, by omega, by omega, H4.out.below.size⟩)
        have HC := hid (show Nf w w5 wr.heap.size m from ⟨⟨hcp, H4.out.below.trans (hb5.mono H4.out.below.size), H4.out.below.size⟩, H4.out.nf.fine⟩)
        have H5 := hid (H4.out.later hb5)
        clear hcp hb5 l1 l2 l3 H4 u0 u1 u3
        generalize wr.heap.size = gc at HL HC ⊢
        go_wp2_with fail
        have hq := nf_ask HC.out Fm.zero wf_zero
        rw [show fv Fm.zero = .agg #[.bool false, .int .u32 0, .bool false, .string ⟨#[]⟩] from rfl] at hq
        with_reducible refine hq.mono ?_
        clear hq
        rintro y w6 ⟨rfl, h6, hg⟩
        have HC2 := hid h6
        have H6 := hid (H5.out.out hg HL.out.2.2.2 HL.out.1 HL.out.2.1 HL.out.2.2.1)
        clear HC H5 h6 hg
        go_wp2_with fail
        with_reducible refine (nf_sample HC2.out false 48 rfl).mono ?_
        rintro y w7 ⟨v, rfl, h7, hev, hg⟩
        have H7 := hid (H6.out.out hg HL.out.2.2.2 HL.out.1 HL.out.2.1 HL.out.2.2.1)
        clear HC2 H6 h7 hev hg
        go_wp2_with fail
        with_reducible refine (nf_busy H7.out.nf).mono ?_
        rintro y w8 ⟨rfl, rfl⟩
        rw [← H7.out.sim.base.busy]
        go_wp2_with fail
        with_reducible refine (qbusy_calls h hr q _ H7.out.qn).mono ?_
        rintro y w8 ⟨rfl, rfl⟩
        go_wp2_with fail
        with_reducible refine (nf_drive H7.out.nf).mono ?_
        rintro y w8 ⟨rfl, h8, hg⟩
        have H8 := hid ((H7.out.ph.mac h8 hg).pb H7.out.sim H7.out.qi)
        rw [sim_drive H8.out.sim]
        clear H7 h8 hg
        have hqs := qs_of H8.out.nf.fine H8.out.sim H8.out.qi (by have := HJ.out; omega)
        have HQS := hid hqs
        clear hqs
        go_wp2_with fail
        have hq := qdrive_calls h hr q _ H8.out.qn H8.out.qr (by have := HQS.out.qb.plain; omega) (by have := HQS.out.qb.want; omega) HQS.out.at_
        with_reducible refine hq.mono ?_
        clear hq
        rintro y w9 ⟨rfl, hb9⟩
        have H9 := hid (H8.out.later hb9)
        clear H8 hb9
        go_wp2_with fail
        go_ret
        exact ⟨rfl, H9.out.below⟩
end Go.Proofs.Ytgmjofcbdimjgaa.MacR
namespace Go.Proofs.Ytgmjofcbdimjgaa.MacR
set_option linter.unusedVariables false
set_option linter.unusedSimpArgs false
open Go Go.RowKit Go.Proofs.Ytgmjofcbdimjgaa.Lib Go.Proofs.Ytgmjofcbdimjgaa.Mac Go.Proofs.Ytgmjofcbdimjgaa.MacW
set_option maxRecDepth 100000
theorem some_at {α : Type} {xs : List α} {n i : Nat} (h : xs.length = n) (hi : i < n) : ∃ y, xs[i]? = some y := ⟨_, List.getElem?_eq_getElem (by omega)⟩
theorem trod_fr {H : Type} {enc : TypeId × Value → H} {W : World} {base : Nat} {spare : Nat → Bool} {held : Bool} {n : Nat} {v1 v2 v3 v4 : Value} {y : DataW H × List MemPlace}
    (ht : DataW.trod enc Try.prog W base spare held n 24 [v1, v2, v3, v4] = some y) : ∃ f : Fm, v1 = .bool f.e ∧ v2 = .int .u32 f.i ∧ v3 = .bool f.r ∧ v4 = .string f.d ∧ f.wf := by
  obtain ⟨xs, n1, _, _, _, hxl, hf⟩ := DataW.trod_struct Try.underlying24 ht
  have hxl : xs.length = 4 := hxl
  obtain ⟨y0, e0⟩ := some_at hxl (i := 0) (by decide)
  obtain ⟨y1, e1⟩ := some_at hxl (i := 1) (by decide)
  obtain ⟨y2, e2⟩ := some_at hxl (i := 2) (by decide)
  obtain ⟨y3, e3⟩ := some_at hxl (i := 3) (by decide)
  have f0 : DataW.trod enc Try.prog W base spare held n1 4 [v1] = some y0 := (hf 0 _ rfl).trans e0
  have f1 : DataW.trod enc Try.prog W base spare held n1 22 [v2] = some y1 := (hf 1 _ rfl).trans e1
  have f2 : DataW.trod enc Try.prog W base spare held n1 4 [v3] = some y2 := (hf 2 _ rfl).trans e2
  have f3 : DataW.trod enc Try.prog W base spare held n1 9 [v4] = some y3 := (hf 3 _ rfl).trans e3
  obtain ⟨a, h0, -⟩ := DataW.trod_bool Try.underlying4 f0
  obtain ⟨i, h1, -, w1⟩ := DataW.trod_int Try.underlying22 f1
  obtain ⟨r, h2, -⟩ := DataW.trod_bool Try.underlying4 f2
  obtain ⟨s, h3, -, _⟩ := DataW.trod_string Try.underlying9 f3
  refine ⟨⟨a, i, r, s⟩, by simpa using h0, by simpa using h1, by simpa using h2, by simpa using h3, ?_⟩
  simp [Lit.wf, IntKind.min, IntKind.max, IntKind.signed, IntKind.bits] at w1
  show 0 ≤ i ∧ i < 4294967296
  omega
theorem trod_one {H : Type} {enc : TypeId × Value → H} {W : World} {base : Nat} {spare : Nat → Bool} {held : Bool} {n : Nat} {b o i : Nat} {y : DataW H × List MemPlace}
    (h : (W.cells? base ⟨b, o + i * 6, none⟩ 6).bind (DataW.trod enc Try.prog W base spare held n 58) = some y) : ∃ s, Cl W b o i s ∧ s.f.wf := by
  rw [Option.bind_eq_some_iff] at h
  obtain ⟨cs, hc, ht⟩ := h
  obtain ⟨_, hl, hcell⟩ := World.cells?_some hc
  obtain ⟨xs, n1, _, _, _, hxl, hf⟩ := DataW.trod_struct Try.underlying58 ht
  have hxl : xs.length = 3 := hxl
  obtain ⟨v0, v1, v2, v3, v4, v5, rfl⟩ : ∃ v0 v1 v2 v3 v4 v5, cs = [v0, v1, v2, v3, v4, v5] := by
    match cs, hl with
    | [v0, v1, v2, v3, v4, v5], _ => exact ⟨v0, v1, v2, v3, v4, v5, rfl⟩
  obtain ⟨y0, e0⟩ := some_at hxl (i := 0) (by decide)
  obtain ⟨y1, e1⟩ := some_at hxl (i := 1) (by decide)
  obtain ⟨y2, e2⟩ := some_at hxl (i := 2) (by decide)
  have f0 : DataW.trod enc Try.prog W base spare held n1 3 [v0] = some y0 := (hf 0 _ rfl).trans e0
  have f1 : DataW.trod enc Try.prog W base spare held n1 24 [v1, v2, v3, v4] = some y1 := (hf 1 _ rfl).trans e1
  have f2 : DataW.trod enc Try.prog W base spare held n1 9 [v5] = some y2 := (hf 2 _ rfl).trans e2
  obtain ⟨a, h0, -, _⟩ := DataW.trod_int Try.underlying3 f0
  obtain ⟨f, h1, h2, h3, h4, hw⟩ := trod_fr f1
  obtain ⟨s, h5, -, _⟩ := DataW.trod_string Try.underlying9 f2
  have h0 : v0 = .int .i64 a := by simpa using h0
  have h5 : v5 = .string s := by simpa using h5
  have get : ∀ k v, k < 6 → [v0, v1, v2, v3, v4, v5][k]? = some v → W.cell? ⟨b, o + i * 6 + k, none⟩ = some v := by
    intro k v hk hv
    have := hcell k hk
    rw [Addr.add_mid] at this
    rw [this, hv]
  refine ⟨⟨a, f, s⟩, ⟨?_, ?_, ?_, ?_, ?_, ?_⟩, hw⟩
  · rw [← h0]; exact get 0 _ (by decide) rfl
  · rw [← h1]; exact get 1 _ (by decide) rfl
  · rw [← h2]; exact get 2 _ (by decide) rfl
  · rw [← h3]; exact get 3 _ (by decide) rfl
  · rw [← h4]; exact get 4 _ (by decide) rfl
  · rw [← h5]; exact get 5 _ (by decide) rfl
theorem steps_of {H : Type} {enc : TypeId × Value → H} {W : World} {base : Nat} {spare : Nat → Bool} {held : Bool} {fuel : Nat} {A : Option Addr} {len cap : Nat} {x : DataW H × List MemPlace}
    (h : DataW.trod enc Try.prog W base spare held fuel 54 [.slice A len cap] = some x) : ∃ S, Steps W A len S := by
  have dflt : SD := ⟨0, Fm.zero, ⟨#[]⟩⟩
  rcases DataW.trod_slice Try.underlying54 h with ⟨hc, _⟩ | ⟨a, len', cap', elems, rest, n, _, hc, _, _, _, _, hlen, hel, _, _⟩
  · simp only [List.cons.injEq, Value.slice.injEq, and_true] at hc
    obtain ⟨_, rfl, _⟩ := hc
    exact ⟨fun _ => dflt, fun j hj => absurd hj (Nat.not_lt_zero _), fun j hj => absurd hj (Nat.not_lt_zero _)⟩
  · simp only [List.cons.injEq, Value.slice.injEq, and_true] at hc
    obtain ⟨rfl, rfl, _⟩ := hc
    have hcl : Try.prog.cellsOf 58 = 6 := by kernel_rfl
    rw [hcl] at hel
    by_cases h0 : len = 0
    · subst h0
      exact ⟨fun _ => dflt, fun j hj => absurd hj (Nat.not_lt_zero _), fun j hj => absurd hj (Nat.not_lt_zero _)⟩
    · have hsp : a.spot = none := by
        have := hel 0 (by omega)
        obtain ⟨y, hy⟩ := some_at hlen (i := 0) (by omega)
        rw [hy, Option.bind_eq_some_iff] at this
        obtain ⟨cs, hc, _⟩ := this
        obtain ⟨_, hl, hcell⟩ := World.cells?_some hc
        obtain ⟨v, hv⟩ := some_at hl (i := 0) (by decide)
        have := (hcell 0 (by decide)).trans hv
        simpa [Addr.add] using World.cell?_spot this
      obtain ⟨b, o, sp⟩ := a
      simp only at hsp
      subst hsp
      have each : ∀ i, ∃ s, i < len → Cl W b o i s ∧ s.f.wf := by
        intro i
        by_cases hi : i < len
        · have := hel i hi
          obtain ⟨y, hy⟩ := some_at hlen hi
          rw [hy, Addr.add_mid] at this
          obtain ⟨s, hs⟩ := trod_one this
          exact ⟨s, fun _ => hs⟩
        · exact ⟨dflt, fun h => absurd h hi⟩
      exact ⟨fun i => Classical.choose (each i), fun j hj => ⟨b, o, rfl, (Classical.choose_spec (each j) hj).1⟩, fun j hj => (Classical.choose_spec (each j) hj).2⟩
theorem plays_walk (A : Option Addr) (n cap : Nat) (w : World) (h : ∃ S, Steps w A n S) : Calls Try.prog 12 #[.slice A n cap] w fun e w' => e = .returned (.bool true) ∧ Below w.heap.size w w' := by
  obtain ⟨S, h⟩ := h
  exact plays_calls A n cap S w h
end Go.Proofs.Ytgmjofcbdimjgaa.MacR
