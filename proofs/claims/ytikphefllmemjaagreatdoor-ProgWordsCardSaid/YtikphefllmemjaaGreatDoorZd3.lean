import Derived.Test.YtikphefllmemjaaGreatDoorZd2
import Derived.Test.YtikphefllmemjaaGreatDoorAm25
/-
The program's facts that the primitives and the draws ask for.
-/
namespace Go.Am.Zd
open Go Go.Am Go.Proofs
set_option maxRecDepth 100000

theorem mixed : Tryz.prog.follows .mixedOrders = true := by kernel_rfl

theorem prims_ok : PrimsOk Tryz.prog prims where
  glob := by kernel_rfl
  fixed := by decide
  ext := by
    rintro f s (⟨rfl, rfl⟩ | ⟨rfl, rfl⟩ | ⟨rfl, rfl⟩)
    · exact ⟨_, Tryz.func106, by kernel_rfl, by kernel_rfl, by kernel_rfl, by rw [if_pos rfl]; kernel_rfl⟩
    · exact ⟨_, Tryz.func108, by kernel_rfl, by kernel_rfl, by kernel_rfl, by rw [if_neg (by decide), if_pos rfl]; kernel_rfl⟩
    · exact ⟨_, Tryz.func107, by kernel_rfl, by kernel_rfl, by kernel_rfl, by rw [if_neg (by decide), if_neg (by decide)]; kernel_rfl⟩
  ty := by
    intro s hs
    simp only [prims, List.mem_singleton] at hs
    subst hs
    have hk : ∀ w, (Extern.Rtype.kind 53).run Tryz.prog w = .ok 25 w := fun w => by kernel_rfl
    have ha : ∀ w, (isAgg 53).run Tryz.prog w = .ok true w := fun w => by kernel_rfl
    exact ⟨(Tryz.prog.info? 24).get (by kernel_rfl), (Tryz.prog.info? 53).get (by kernel_rfl), 25, by kernel_rfl, by kernel_rfl, by kernel_rfl, by kernel_rfl, by kernel_rfl, hk, ha, by kernel_rfl, by kernel_rfl, by kernel_rfl, of_decide_eq_true (by kernel_rfl)⟩
  ne := by
    intro f hf
    have : f = 92 := by cases hf; rfl
    subst this
    exact ⟨_, Tryz.func92, by kernel_rfl, by kernel_rfl, by kernel_rfl, by kernel_rfl⟩
  ib := by
    intro f hf
    have : f = 148 := by cases hf; rfl
    subst this
    exact ⟨_, Tryz.func148, by kernel_rfl, by kernel_rfl, by kernel_rfl, by kernel_rfl⟩
  swf := by
    intro s hs
    simp only [prims, List.mem_singleton] at hs
    subst hs
    exact ⟨_, false, Tryz.func129, by kernel_rfl, by kernel_rfl, by kernel_rfl, by kernel_rfl⟩

theorem ok : TblOk Tryz.prog tbl := mkT_ok fns_ok dfs_ok prims_ok

end Go.Am.Zd
