/- The walks of package bus: a wire's memory, its functions. -/
import Derived.Test.YtlfeidakmhniaaaProg
import Derived.Test.YtlfeidakmhniaaaMem2
import Derived.Test.YtlfeidakmhniaaaRegionB
import Derived.Test.YtlfeidakmhniaaaWMore
import Derived.Tactics
import Derived.LoopTactic
import Derived.WalkKit
import Derived.KernelRfl
import Derived.RowKit
import Derived.Lib.Bytealg
import Derived.StillTactics
namespace Go.Proofs.Ytlfeidakmhniaaa.BusW
set_option linter.unusedVariables false
set_option linter.unusedSimpArgs false
open Go Go.RowKit Go.Proofs.Ytlfeidakmhniaaa.Lib Go.Proofs.YtlfeidakmhniaaaW.PrintMore
attribute [local go_sem] max2_int min2_int max_two min_two

theorem info_u8 : (Try.prog.info? 5).map (fun i => (i.zero, i.size, i.bytes)) = some (some (.int .u8 0), 1, 1) := by kernel_rfl

set_option maxRecDepth 100000 in
set_option maxHeartbeats 1600000 in
theorem lite_calls (s : ByteArray) (c : Int) (w : World) :
    Calls Try.prog 30 #[.string s, .int .u8 c] w fun e w' => e = .returned (.int .i64 (Go.Lib.indexByte s.data.toList c.toNat.toUInt8)) ∧ w' = w := by
  go_enter Try.func30, Try.ntmps30
  go_wp2
  rw [run_callFunc_extern Try.func31 (by kernel_rfl) (by kernel_rfl) (by kernel_rfl) (e := Extern.BytealgIndexByte.indexByte) (by kernel_rfl), Go.Lib.run_indexByteString]
  simp only [Result.andThen]
  rw [Oper.upon_value]
  go_wp2
  go_ret
  exact ⟨rfl, rfl⟩
set_option maxRecDepth 100000 in
set_option maxHeartbeats 1600000 in
theorem index_calls (s : ByteArray) (c : Int) (w : World) :
    Calls Try.prog 28 #[.string s, .int .u8 c] w fun e w' => e = .returned (.int .i64 (Go.Lib.indexByte s.data.toList c.toNat.toUInt8)) ∧ w' = w := by
  go_enter Try.func28, Try.ntmps28
  go_wp2_with (go_at_call 30; refine (lite_calls _ _ _).mono ?_; rintro e w' ⟨rfl, rfl⟩)
  go_ret
  exact ⟨rfl, rfl⟩
theorem index_has (l : List UInt8) (c : UInt8) : decide (Go.Lib.indexByte l c ≥ 0) = l.contains c := by
  induction l with
  | nil => rfl
  | cons b l ih =>
    unfold Go.Lib.indexByte
    have hge := Go.Lib.indexByte_ge l c
    by_cases hb : (b == c) = true
    · rw [if_pos hb]
      have : c == b := by rw [beq_iff_eq] at hb ⊢; exact hb.symm
      rw [List.contains_cons, this, Bool.true_or]
      rfl
    · rw [if_neg hb]
      have : (c == b) = false := by
        cases h : (c == b)
        · rfl
        · rw [beq_iff_eq] at h; exact absurd (by rw [h]; exact beq_self_eq_true b) hb
      rw [List.contains_cons, this, Bool.false_or, ← ih]
      by_cases h1 : (Go.Lib.indexByte l c == -1) = true
      · rw [if_pos h1]
        rw [beq_iff_eq] at h1
        rw [h1]
      · rw [if_neg h1]
        have : Go.Lib.indexByte l c ≠ -1 := fun h => h1 (by rw [h]; rfl)
        congr 1
        apply propext
        omega

/-- A wire at g: its bits kept, their number, whether the next one is turned. The rows lie from base on. -/
def IsBus (w : World) (base g : Nat) (v : Value) (l : List UInt8) (n : Int) (t : Bool) : Prop :=
  base ≤ g ∧ Blk w g 45 [v, .int .i64 n, .bool t] ∧ OwnB w base 5 v l
/-- What a call on the wire g may change: its block, the row of its bits. -/
structure Kept2 (w w' : World) (g : Nat) (r : Option Nat) : Prop where
  os : w'.os = w.os
  tape : w'.tape = w.tape
  output : w'.output = w.output
  size : w.heap.size ≤ w'.heap.size
  block : ∀ k, k < w.heap.size → k ≠ g → some k ≠ r → w'.heap[k]? = w.heap[k]?

set_option maxRecDepth 100000 in
set_option maxHeartbeats 1600000 in
theorem new_calls (w : World) : Calls Try.prog 12 #[] w fun e w' => e = .returned (.pointer (some ⟨w.heap.size, 0, none⟩)) ∧ IsBus w' w.heap.size w.heap.size (.slice none 0 0) [] 0 false ∧ w.grownBy w' none := by
  go_enter Try.func12, Try.ntmps12
  go_wp2
  go_ret
  exact ⟨rfl, ⟨Nat.le_refl _, Blk.new w _ _, OwnB.nil _ _ _⟩, grown_alloc (grown_refl _ _) _⟩

set_option maxRecDepth 100000 in
set_option maxHeartbeats 1600000 in
theorem flip_calls (base g : Nat) (v : Value) (l : List UInt8) (n : Int) (t : Bool) (w : World) (h : IsBus w base g v l n t) :
    Calls Try.prog 16 #[.pointer (some ⟨g, 0, none⟩)] w fun e w' => e = .returned (.tuple #[]) ∧ IsBus w' base g v l n true ∧ w.grownBy w' (some g) := by
  obtain ⟨h1, h2, h3⟩ := h
  have hc2 := h2.cell 2
  have hf2 := h2.frozen 2
  simp at hc2
  have hne := h3.ne h2 (by decide)
  go_enter Try.func16, Try.ntmps16
  go_wp2
  go_end0
  exact ⟨rfl, ⟨h1, h2.set 2 _, h3.set 2 _ hne⟩, grown_set (grown_refl _ _) _ _⟩

set_option maxRecDepth 100000 in
set_option maxHeartbeats 1600000 in
theorem len_calls (base g : Nat) (v : Value) (l : List UInt8) (n : Int) (t : Bool) (w : World) (h : IsBus w base g v l n t) :
    Calls Try.prog 15 #[.pointer (some ⟨g, 0, none⟩)] w fun e w' => e = .returned (.int .i64 n) ∧ w = w' := by
  obtain ⟨h1, h2, h3⟩ := h
  have hc1 := h2.cell 1
  simp at hc1
  go_enter Try.func15, Try.ntmps15
  go_wp2
  go_ret
  exact ⟨rfl, rfl⟩

end Go.Proofs.Ytlfeidakmhniaaa.BusW
