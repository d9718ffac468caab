/- CodeReads (layer 4): of every row of bits the frame that it begins with, or the first error that is met, and where: as the document's reader tells. Conditions: none beyond the types of the arguments; longer rows are let pass. -/
import Derived.Test.YtkdnldoebghclaaCodeLaws
import Derived.Test.YtkdnldoebghclaaRefD
namespace Go.Proofs.Ytkdnldoebghclaa.CodeL
set_option linter.unusedVariables false
set_option linter.unusedSimpArgs false
open Go.Proofs.YtkdnldoebghclaaW.PrintWords
open Go Go.RowKit Go.Proofs.Ytkdnldoebghclaa.Lib Go.Proofs.Ytkdnldoebghclaa.Bits Go.Proofs.Ytkdnldoebghclaa.BitsW Go.Proofs.Ytkdnldoebghclaa.StuffW Go.Proofs.Ytkdnldoebghclaa.Frame Go.Proofs.Ytkdnldoebghclaa.FrameW Go.Proofs.Ytkdnldoebghclaa.Code Go.Proofs.Ytkdnldoebghclaa.CodeW Go.Proofs.Ytkdnldoebghclaa.RefW Go.Proofs.YtkdnldoebghclaaW.PrintMore
attribute [local go_sem] max2_int min2_int max_two min_two
attribute [local go_sem high] eqA24

theorem same_dec (l : List Bool) : decode3 R3.new 0 l = decodeL Rd.zero 0 l := decode_same l Rd.zero R3.new 0 link_zero
set_option maxRecDepth 100000 in
set_option maxHeartbeats 6400000 in
theorem reads_calls (s : ByteArray) (w : World) (hs : s.size ≤ 9223372036854775807) :
    Calls Try.prog 4 #[.string s] w fun e w' => e = .returned (.bool true) ∧ Below w.heap.size w w' := by
  go_enter Try.func4, Try.ntmps4
  go_wp2_with fail
  refine (known_calls _).mono ?_
  rintro x w1 ⟨rfl, HB⟩
  by_cases h300 : 300 < (s.size : Int)
  · have h3 : ((300 : Int) < (s.size : Int)) = True := eq_true h300
    go_wp2_with fail
    go_ret
    exact ⟨rfl, HB⟩
  · have h3 : ((300 : Int) < (s.size : Int)) = False := eq_false h300
    have hn3 : (300 < s.size) = False := eq_false (by omega)
    have D1 := hid (fun (W : World) => decode_calls s W (by omega))
    have D2 := hid (fun (W : World) => rdecode_calls s W (by omega))
    rw [same_dec] at D2
    generalize decodeL Rd.zero 0 (bitsOf s) = D at *
    obtain ⟨⟨e, n, r, d⟩, k, c⟩ := D
    simp only at D1 D2
    go_wp2_with fail
    refine (D1.out _).mono ?_
    rintro x w2 ⟨rfl, hb⟩
    have HB := HB.trans (hb.mono HB.size)
    have HB := HB.alloc HB.size (.cells #[.bool e, .int .u32 n, .bool r, .string ⟨d.toArray⟩] 24)
    have H3 := Blk.new w2 [.bool e, .int .u32 n, .bool r, .string ⟨d.toArray⟩] 24
    clear hb
    go_wp2_with fail
    refine (D2.out _).mono ?_
    rintro x w3 ⟨rfl, hb⟩
    generalize w2.heap.size = g3 at *
    have HB := HB.trans (hb.mono HB.size)
    have HB := HB.alloc HB.size (.cells #[.bool e, .int .u32 n, .bool r, .string ⟨d.toArray⟩] 24)
    have H6 := Blk.new w3 [.bool e, .int .u32 n, .bool r, .string ⟨d.toArray⟩] 24
    have H3 := (H3.below hb).alloc (.cells #[.bool e, .int .u32 n, .bool r, .string ⟨d.toArray⟩] 24)
    clear hb
    obtain ⟨x0, x1, x2, x3⟩ := frame_res H3
    obtain ⟨y0, y1, y2, y3⟩ := frame_res H6
    go_wp2_with fail
    go_ret
    exact ⟨rfl, HB⟩
end Go.Proofs.Ytkdnldoebghclaa.CodeL
