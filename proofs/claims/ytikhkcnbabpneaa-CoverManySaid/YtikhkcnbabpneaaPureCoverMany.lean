/- CoverMany: what it computes is true: 26 cases. -/
import Derived.Test.YtikhkcnbabpneaaPx35
import Derived.DataShut
namespace Go.Proofs.Ytikhkcnbabpneaa.Pure
open Go.RowKit Go.Proofs.Ytikhkcnbabpneaa.P Go.Proofs.YtikhkcnbabpneaaW.PrintWords Go.Proofs.YtikhkcnbabpneaaW.PrintLast

set_option maxRecDepth 100000 in
theorem many26 : ∀ n ∈ List.range 26, selvagelaw09_CoverMany.l0 200 (n : Int) [] 0 = some true := by decide +kernel
theorem many_j (x : Int) (h : 0 ≤ x) : selvagelaw09_CoverMany.j0 201 x = some true := by
  have hm : Int.tmod x 26 = ((x % 26).toNat : Int) := by rw [Int.tmod_eq_emod_of_nonneg h]; omega
  simp only [selvagelaw09_CoverMany.j0]
  rw [hm]
  exact many26 _ (by rw [List.mem_range]; omega)
theorem CoverMany : selvagelaw09_CoverMany.Pure := by
  intro a0 hw
  have hr : -9223372036854775808 ≤ a0 ∧ a0 ≤ 9223372036854775807 := by
    have h := (Lit.wf_int_iff .i64 a0).1 hw
    have h1 : IntKind.min .i64 = -9223372036854775808 := by decide +kernel
    have h2 : IntKind.max .i64 = 9223372036854775807 := by decide +kernel
    omega
  refine ⟨201, ?_⟩
  unfold selvagelaw09_CoverMany.f
  split
  · next h =>
    have h1 : wrap64 (a0 + 1) = a0 + 1 := by unfold wrap64; omega
    have h2 : wrap64 (-(a0 + 1)) = -(a0 + 1) := by unfold wrap64; omega
    rw [h1, h2]
    exact many_j _ (by omega)
  · next h => exact many_j _ (by omega)

end Go.Proofs.Ytikhkcnbabpneaa.Pure
