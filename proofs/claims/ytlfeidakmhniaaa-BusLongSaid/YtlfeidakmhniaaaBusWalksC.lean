/- The walks of package bus, continued: the latest bits. -/
import Derived.Test.YtlfeidakmhniaaaBusWalksB
namespace Go.Proofs.Ytlfeidakmhniaaa.BusW
set_option linter.unusedVariables false
set_option linter.unusedSimpArgs false
open Go Go.RowKit Go.Proofs.Ytlfeidakmhniaaa.Lib Go.Proofs.YtlfeidakmhniaaaW.PrintMore
attribute [local go_sem] max2_int min2_int max_two min_two

/-- What is told of the bits kept. -/
def tailOf (l : List UInt8) : List UInt8 := l.drop (l.length - 4000)

theorem run_conv_part {P : Program} {w : World} (src dst e : TypeId) (hs : P.underlying src = some (.slice e)) (he : P.underlying e = some (.int .u8)) (hd : P.underlying dst = some .string)
    (base gr cp m : Nat) (l : List UInt8) (hown : OwnB w base e (.slice (some ⟨gr, 0, none⟩) l.length cp) l) (hm : m ≤ l.length) : (convert src dst (.slice (some ⟨gr, m, none⟩) (l.length - m) (cp - m))).run P w = .ok (.string ⟨(l.drop m).toArray⟩) w := by
  have := run_convert_bytes_arg (P := P) (w := w) src e hs he gr m (l.length - m) (cp - m) ((l.drop m).map fun x => (x.toNat : Int)) (by simp) (fun i hi => by
    have hc := World.ownsRow.cells (g := gr) hown rfl (m + i) (.int .u8 (l[m + i].toNat : Int)) (byteVs_get l (m + i) (by omega))
    have ha : (⟨gr, 0, none⟩ : Addr).add (m + i) = ⟨gr, m + i, none⟩ := by unfold Addr.add; split <;> simp_all
    rw [ha] at hc
    rw [hc]
    simp [List.getD, show m + i < l.length by omega]) dst hd
  rw [strOf_bytes] at this
  exact this

set_option maxRecDepth 100000 in
set_option maxHeartbeats 3200000 in
theorem trace_calls (base g : Nat) (v : Value) (l : List UInt8) (n : Int) (t : Bool) (w : World) (h : IsBus w base g v l n t) (hl : l.length ≤ 1000000) :
    Calls Try.prog 14 #[.pointer (some ⟨g, 0, none⟩)] w fun e w' => e = .returned (.string ⟨(tailOf l).toArray⟩) ∧ Below w.heap.size w w' := by
  obtain ⟨h1, h2, h3⟩ := h
  obtain ⟨i0, hi, hz0, hz1, hz2⟩ := info_parts info_u8
  have hc0 := h2.drew.cell 0
  simp at hc0
  have hlen := own_len h3
  obtain ⟨m, hm⟩ : ∃ m, m = l.length - 4000 := ⟨_, rfl⟩
  have hmx : max ((l.length : Int) - 4000) 0 = (m : Int) := by omega
  have hml : m ≤ l.length := by omega
  unfold tailOf
  rw [← hm]
  have HM := Hd.mk hm
  have HLL := Hd.mk hl
  rcases hlen with ⟨rfl, hz⟩ | ⟨gr, cp, rfl, hcp⟩
  · have hl0 : l = [] := List.eq_nil_of_length_eq_zero hz
    subst hl0
    have hm0 : m = 0 := hm
    subst hm0
    clear hm hl hmx hml
    go_enter Try.func14, Try.ntmps14
    go_wp2_with fail
    refine region_text (by kernel_rfl) (by kernel_rfl) (fun b _ W => W = w.drew) rfl ?_
    refine t_pure (.pointer (some ⟨g, 0, none⟩)) (fun _ => rfl) (fun b g w h => h) (fun b g w h _ => by subst h; go_simp) ?_
    refine t_pure (.pointer (some ⟨g, 0, none⟩)) (fun _ => rfl) (fun b g w h => h) (fun b g w h _ => by subst h; go_simp) ?_
    refine t_pure (.pointer (some ⟨g, 0, none⟩)) (fun _ => rfl) (fun b g w h => h) (fun b g w h _ => by subst h; go_simp) ?_
    refine t_pure (.slice none 0 0) (fun _ => rfl) (fun b g w h => h) (fun b g w h _ => by subst h; go_simp) ?_
    refine t_pure (.pointer (some ⟨g, 0, none⟩)) (fun _ => rfl) (fun b g w h => h) (fun b g w h _ => by subst h; go_simp) ?_
    refine t_pure (.pointer (some ⟨g, 0, none⟩)) (fun _ => rfl) (fun b g w h => h) (fun b g w h _ => by subst h; go_simp) ?_
    refine t_pure (.pointer (some ⟨g, 0, none⟩)) (fun _ => rfl) (fun b g w h => h) (fun b g w h _ => by subst h; go_simp) ?_
    refine t_pure (.slice none 0 0) (fun _ => rfl) (fun b g w h => h) (fun b g w h _ => by subst h; go_simp) ?_
    refine t_pure (.int .i64 0) (fun _ => rfl) (fun b g w h => h) (fun b g w h _ => by subst h; go_simp) ?_
    refine t_pure (.int .i64 (-4000)) (fun _ => rfl) (fun b g w h => h) (fun b g w h _ => by subst h; go_simp; decide) ?_
    refine t_pure (.int .i64 0) (fun _ => rfl) (fun b g w h => h) (fun b g w h _ => by subst h; go_simp) ?_
    refine t_pure (.slice none 0 0) (fun _ => rfl) (fun b g w h => h) (fun b g w h _ => by subst h; go_simp) ?_
    refine t_pure (.string ⟨#[]⟩) (fun _ => rfl) (fun b g w h => h) (fun b g w h _ => ?_) ?_
    · subst h
      have : (convert 36 9 (.slice none 0 0)).run Try.prog w.drew = .ok (.string ⟨#[]⟩) w.drew := run_convert_bytes_nil w.drew 36 5 Try.underlying36 Try.underlying5 0 0 9 Try.underlying9
      go_simp
    refine t_pure (.string ⟨#[]⟩) (fun _ => rfl) (fun b g w h => h) (fun b g w h _ => by subst h; go_simp) ?_
    refine t_end ?_
    intro bq gq w5 hall hS
    subst hS
    simp only [Act.put, List.setIfInBounds_toArray, List.set_cons_zero, List.set_cons_succ]
    go_wp2_with fail
    go_ret
    exact ⟨rfl, (Below.refl _ _).drew⟩
  · clear hm hl
    go_enter Try.func14, Try.ntmps14
    go_wp2_with fail
    refine region_text (by kernel_rfl) (by kernel_rfl) (fun b _ W => W = w.drew) rfl ?_
    refine t_pure (.pointer (some ⟨g, 0, none⟩)) (fun _ => rfl) (fun b g w h => h) (fun b g w h _ => by subst h; go_simp) ?_
    refine t_pure (.pointer (some ⟨g, 0, none⟩)) (fun _ => rfl) (fun b g w h => h) (fun b g w h _ => by subst h; go_simp) ?_
    refine t_pure (.pointer (some ⟨g, 0, none⟩)) (fun _ => rfl) (fun b g w h => h) (fun b g w h _ => by subst h; go_simp) ?_
    refine t_pure (.slice (some ⟨gr, 0, none⟩) l.length cp) (fun _ => rfl) (fun b g w h => h) (fun b g w h _ => by subst h; go_simp) ?_
    refine t_pure (.pointer (some ⟨g, 0, none⟩)) (fun _ => rfl) (fun b g w h => h) (fun b g w h _ => by subst h; go_simp) ?_
    refine t_pure (.pointer (some ⟨g, 0, none⟩)) (fun _ => rfl) (fun b g w h => h) (fun b g w h _ => by subst h; go_simp) ?_
    refine t_pure (.pointer (some ⟨g, 0, none⟩)) (fun _ => rfl) (fun b g w h => h) (fun b g w h _ => by subst h; go_simp) ?_
    refine t_pure (.slice (some ⟨gr, 0, none⟩) l.length cp) (fun _ => rfl) (fun b g w h => h) (fun b g w h _ => by subst h; go_simp) ?_
    refine t_pure (.int .i64 l.length) (fun _ => rfl) (fun b g w h => h) (fun b g w h _ => by subst h; go_simp) ?_
    refine t_pure (.int .i64 ((l.length : Int) - 4000)) (fun _ => rfl) (fun b g w h => h) (fun b g w h _ => by subst h; have e : IntKind.i64.wrap ((l.length : Int) - 4000) = (l.length : Int) - 4000 := (by rw [IntKind.wrap_i64]; have := HLL.out; omega); go_simp) ?_
    refine t_pure (.int .i64 m) (fun _ => rfl) (fun b g w h => h) (fun b g w h _ => by subst h; go_simp; have := HM.out; split <;> omega) ?_
    refine t_pure (.slice (some ⟨gr, m, none⟩) (l.length - m) (cp - m)) (fun _ => rfl) (fun b g w h => h) (fun b g w h _ => by subst h; go_simp; intro hc; have := HM.out; omega) ?_
    refine t_pure (.string ⟨(l.drop m).toArray⟩) (fun _ => rfl) (fun b g w h => h) (fun b g w h _ => ?_) ?_
    · subst h
      have : (convert 36 9 (.slice (some ⟨gr, m, none⟩) (l.length - m) (cp - m))).run Try.prog w.drew = .ok (.string ⟨(l.drop m).toArray⟩) w.drew := run_conv_part (P := Try.prog) 36 9 5 Try.underlying36 Try.underlying5 Try.underlying9 _ _ _ m l (h3.kept (row := none) (by exact grown_drew (grown_refl _ _)) (by simp [Value.ownBlock])) hml
      go_simp
    refine t_pure (.string ⟨(l.drop m).toArray⟩) (fun _ => rfl) (fun b g w h => h) (fun b g w h _ => by subst h; go_simp) ?_
    refine t_end ?_
    intro bq gq w5 hall hS
    subst hS
    simp only [Act.put, List.setIfInBounds_toArray, List.set_cons_zero, List.set_cons_succ]
    go_wp2_with fail
    go_ret
    exact ⟨rfl, (Below.refl _ _).drew⟩
end Go.Proofs.Ytlfeidakmhniaaa.BusW
