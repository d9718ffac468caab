/- ConfineBack (layer 5): for every number of failed frames taken modulo forty, a node that then sends
   eight times as many frames well has its counters at zero again, was off exactly when it failed at least
   thirty-two times, and is not passive. Conditions: none beyond the type of the argument. -/
import Derived.Test.YtlfeidakmhniaaaPConfineBackx2
import Derived.OpenShut
namespace Go.Proofs.Ytlfeidakmhniaaa.Pure
open Go.RowKit Go.Proofs.Ytlfeidakmhniaaa.PConfineBack Go.Proofs.YtlfeidakmhniaaaW.PrintWords Go.Proofs.YtlfeidakmhniaaaW.PrintLast

theorem back_all : ∀ n : Fin 256, ostinatolaw5_ConfineBack.f 400 (n.val : Int) = some true := by decide +kernel

theorem ConfineBack : ostinatolaw5_ConfineBack.Pure := by
  intro a0 hw
  have hb := bounds_u8 hw
  have h : 0 ≤ a0 ∧ a0 < 256 := ⟨hb.1, by omega⟩
  refine ⟨400, ?_⟩
  have h2 := back_all ⟨a0.toNat, by omega⟩
  simp only at h2
  rw [Int.toNat_of_nonneg h.1] at h2
  exact h2

end Go.Proofs.Ytlfeidakmhniaaa.Pure
