/- The walks of package mac: a new node, a copy; a frame begins. -/
import Derived.Test.YtgmjofcbdimjgaaMacC
namespace Go.Proofs.Ytgmjofcbdimjgaa.MacW
set_option linter.unusedVariables false
set_option linter.unusedSimpArgs false
open Go Go.RowKit Go.Proofs.Ytgmjofcbdimjgaa.Lib Go.Proofs.Ytgmjofcbdimjgaa.Bits Go.Proofs.Ytgmjofcbdimjgaa.BitsW Go.Proofs.Ytgmjofcbdimjgaa.StuffW Go.Proofs.Ytgmjofcbdimjgaa.Frame Go.Proofs.Ytgmjofcbdimjgaa.FrameW Go.Proofs.Ytgmjofcbdimjgaa.Code Go.Proofs.Ytgmjofcbdimjgaa.CodeW Go.Proofs.Ytgmjofcbdimjgaa.Mac Go.Proofs.Ytgmjofcbdimjgaa.PrintMore
attribute [local go_sem] max2_int min2_int max_two min_two
/-- A row of cells laid from a place on. -/
def setL : List Value → Nat → List Value → List Value
  | cs, _, [] => cs
  | cs, o, v :: r => setL (cs.set o v) (o + 1) r
theorem setL_mid : ∀ (vs pre mid post : List Value), mid.length = vs.length → setL (pre ++ (mid ++ post)) pre.length vs = pre ++ (vs ++ post)
  | [], pre, mid, post, h => by
    have : mid = [] := List.eq_nil_of_length_eq_zero h
    subst this; rfl
  | v :: r, pre, mid, post, h => by
    obtain ⟨x, mid', rfl⟩ : ∃ x t, mid = x :: t := by cases mid <;> simp_all
    have e := setL_mid r (pre ++ [v]) mid' post (by simpa using h)
    simp only [List.length_append, List.length_cons, List.length_nil, Nat.zero_add, List.append_assoc, List.cons_append, List.nil_append] at e
    unfold setL
    rw [List.set_append_right _ _ (Nat.le_refl _), Nat.sub_self]
    exact e
theorem blk_setL {g : Nat} {T : TypeId} : ∀ (vs : List Value) (o : Nat) {W : World} {cs : List Value}, Blk W g T cs → Blk (W.setCells g o vs) g T (setL cs o vs)
  | [], _, _, _, h => h
  | v :: r, o, _, _, h => by
    unfold setL World.setCells
    exact blk_setL r (o + 1) (h.set o v)
theorem here_setL {w : World} {g : Nat} {T : TypeId} : ∀ (vs : List Value) (o : Nat) {W : World} {cs : List Value}, Here w W g T cs → Here w (W.setCells g o vs) g T (setL cs o vs)
  | [], _, _, _, h => h
  | v :: r, o, _, _, h => by
    unfold setL World.setCells
    exact here_setL r (o + 1) (h.set o v)
theorem below_setL {w : World} {B g : Nat} (hg : B ≤ g) : ∀ (vs : List Value) (o : Nat) {W : World}, Below B w W → Below B w (W.setCells g o vs)
  | [], _, _, h => h
  | v :: r, o, _, h => by
    unfold World.setCells
    exact below_setL hg r (o + 1) (h.setCell (by exact hg) v)
theorem blk_there {W : World} {g : Nat} {T : TypeId} {cs : List Value} (h : Blk W g T cs) (o n : Nat) (hl : o + n ≤ cs.length) : W.there g o n := by
  intro j hj
  rw [h.cell]
  exact ⟨by rw [List.getElem?_eq_getElem (by omega)]; rfl, h.frozen _⟩
theorem blk_range {W : World} {g : Nat} {T : TypeId} {cs : List Value} (h : Blk W g T cs) : W.rangeAt g 0 cs := by
  intro j v hv
  rw [Nat.zero_add, h.cell]
  exact hv
theorem mc_length {m : M} (h : m.r.b.length ≤ 128) : (mc m).length = 148 := by simp [mc, hc, rc_length h]
theorem one_cells (m : M) : (mc m).toArray.all (·.oneCell') = true := by
  refine all_oneCell_toArray fun v hv => ?_
  simp only [mc, hc, rc, arrOf, byteVs, List.mem_append, List.mem_cons, List.not_mem_nil, or_false, List.mem_map, List.mem_replicate] at hv
  rcases hv with (h | h | h | h | h | h | h | h | h | h | h | h | h) | (h | h) | ((⟨_, _, h⟩ | ⟨_, h⟩) | h | h | h | h | h) <;> subst h <;> rfl
set_option maxRecDepth 100000 in
theorem new_cells : (Try.zeroCells72.setIfInBounds 0 (.int .i64 6)).setIfInBounds 1 (.int .i64 3) = (mc M.new).toArray := by kernel_rfl
set_option maxRecDepth 100000 in
theorem zero_cells : Try.zeroCells70 = (rc Rd.zero).toArray := by kernel_rfl
set_option maxRecDepth 100000 in
theorem zero_size : (Try.zeroCells72).toList.length = 148 := by kernel_rfl
theorem info_mac : (Try.prog.info? MT).map (·.size) = some 148 := by kernel_rfl
theorem info_rd : (Try.prog.info? 70).map (·.size) = some 135 := by kernel_rfl
set_option maxRecDepth 100000 in
set_option maxHeartbeats 3200000 in
theorem new_calls (w : World) : Calls Try.prog 15 #[] w fun e w' => e = .returned (.pointer (some ⟨w.heap.size, 0, none⟩)) ∧ Blk w' w.heap.size MT (mc M.new) ∧ Below w.heap.size w w' := by
  have HN := hid (new_cells)
  go_enter Try.func15, Try.ntmps15
  go_wp2_with fail
  rw [HN.out]
  go_ret
  exact ⟨rfl, Blk.new w (mc M.new) MT, (Below.refl w.heap.size w).alloc (Nat.le_refl _) _⟩
set_option maxRecDepth 100000 in
set_option maxHeartbeats 3200000 in
theorem copy_calls (g : Nat) (m : M) (w : World) (hb : Blk w g MT (mc m)) (hl : m.r.b.length ≤ 128) : Calls Try.prog 37 #[.pointer (some ⟨g, 0, none⟩)] w fun e w' => e = .returned (.pointer (some ⟨w.heap.size, 0, none⟩)) ∧ Blk w' w.heap.size MT (mc m) ∧ Below w.heap.size w w' := by
  have HB := hid hb
  have HL := hid (mc_length hl)
  have HO := hid (one_cells m)
  clear hb
  generalize mc m = cs at HB HL HO ⊢
  go_enter Try.func37, Try.ntmps37
  go_wp2_with fail
  refine wp_load_mid MT _ rfl g 0 rfl cs _ (blk_range HB.out) Try.underlying72 rfl (by rw [info_mac, HL.out]) ?_
  simp only [Act.put, List.setIfInBounds_toArray, List.set_cons_zero, List.set_cons_succ]
  have HN : Blk (w.alloc (.cells Try.zeroCells72 MT)) w.heap.size MT (Try.zeroCells72).toList := Blk.new w _ _
  have HZ := zero_size
  have ht := blk_there HN 0 cs.length (by rw [HL.out]; omega)
  have HS := run_storeCells_cells (P := Try.prog) w.heap.size 0 cs 0 (w.alloc (.cells Try.zeroCells72 MT)) (fun j hj => by simpa using (ht j hj).1) (fun j hj => by have h9 := (ht j hj).2; simp only [Nat.zero_add] at h9 ⊢; exact h9) (fun v hv => (Array.all_eq_true_iff_forall_mem.1 HO.out) v (by simpa using hv))
  simp only [Nat.add_zero] at HS
  have HW := hid (below_setL (g := w.heap.size) (Nat.le_refl _) cs 0 ((Below.refl w.heap.size w).alloc (Nat.le_refl _) (.cells Try.zeroCells72 MT)))
  have HX := blk_setL cs 0 HN
  have e := setL_mid cs [] (Try.zeroCells72).toList [] (by rw [HZ, HL.out])
  simp only [List.nil_append, List.append_nil, List.length_nil] at e
  rw [e] at HX
  have HX := hid HX
  clear HN HZ e ht
  generalize (w.alloc (.cells Try.zeroCells72 MT)).setCells w.heap.size 0 cs = w2 at HS HW HX
  go_wp2_with fail
  go_ret
  exact ⟨rfl, HX.out, HW.out⟩
end Go.Proofs.Ytgmjofcbdimjgaa.MacW
