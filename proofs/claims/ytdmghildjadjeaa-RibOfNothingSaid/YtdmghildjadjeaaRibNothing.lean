/- The law RibOfNothing, walked: it returns true. -/
import Derived.Test.YtdmghildjadjeaaRibPlayed
namespace Go.Proofs.Ytdmghildjadjeaa
open Go.RowKit Go.BigFrame
set_option linter.unusedSimpArgs false
set_option linter.unusedVariables false
attribute [local irreducible] wpMix wpAnyG

set_option maxRecDepth 100000 in
set_option maxHeartbeats 2000000 in
theorem law_nothing (r : RouteM) (w : World) :
    Calls Try.prog 10 #[.agg r.cells.toArray] w fun e w' => e = .returned (.bool true) ∧ Fr noB w w' := by
  go_enter Try.func10, Try.ntmps10
  go_upto_region 1 with (fail)
  refine wp_gen (fun W => CellsAt W w.heap.size 0 r.cells ∧ Fr noB w W) ⟨by (repeat (first | assumption | exact cells_new _ _ _ (by simp) | refine CellsAt.alloc ?_ _ | refine CellsAt.drew ?_ | refine CellsAt.drewN ?_ _)), (Fr.refl _ _).alloc _⟩ ?_
  rintro w1 ⟨hc, hf⟩
  have Hc := hide hc; have Hf := hide hf
  have a0 := (route_now hc).1
  have hcp := pfx_cells hc
  clear hc hf
  go_wp2_with (first | (refine wpList_load_at rfl 24 (.tmp 10) rfl w.heap.size 1 rfl r.pfx.cells hcp _ Try.underlying24 rfl (by kernel_rfl) ?_) | (refine wpList_buildSlice rfl 39 1 _ rfl #[(0, .bool true)] (by kernel_rfl) Try.underlying39 (.bool false) 1 (by kernel_rfl) #[.bool true] (by decide) (by decide) (by kernel_rfl) ?_))
  refine (rib_best_nil (w1.alloc (.cells #[.bool true] 4)) r.table r.pfx ⟨some ⟨w1.heap.size, 0, none⟩, 1, 1⟩).mono ?_
  rintro e w2 ⟨rfl, hf2⟩
  have Hf2 := hide ((Hf.out.alloc _).tr hf2)
  have Hc2 := hide ((Hc.out.alloc (.cells #[.bool true] 4)).fr hf2 (fun h => h))
  unfold bestV
  clear hf2 a0 hcp
  go_upto_region 3 with (refine wpList_store_new rfl 26 _ _ rfl _ _ zeroR.cells _ rfl rfl (by simp) (by kernel_rfl) rfl (by kernel_rfl) ?_)
  refine wp_gen (fun W => CellsAt W w.heap.size 0 r.cells ∧ Fr noB w W) ⟨Hc2.out.alloc _, Hf2.out.alloc _⟩ ?_
  rintro w3 ⟨hc3, hf3⟩
  have Hc3 := hide hc3; have Hf3 := hide hf3
  clear hf3 Hf2 Hc2
  go_wp2_with (refine wpList_load_at rfl 26 _ rfl _ _ rfl (RouteM.cells _) (by (repeat (first | assumption | exact cells_new _ _ _ (by simp) | refine CellsAt.alloc ?_ _ | refine CellsAt.drew ?_ | refine CellsAt.drewN ?_ _))) _ Try.underlying26 rfl (by kernel_rfl) ?_)
  refine (rib_add_nil r w3).mono ?_
  rintro e w4 ⟨rfl, hf4⟩
  have hc4 : CellsAt w4 w.heap.size 0 r.cells := Hc3.out.fr hf4 (fun h => h)
  have Hf4 := hide (Hf3.out.tr hf4)
  clear hc3 hf4
  go_wp2_with (refine wpList_load_atw rfl 26 _ rfl _ _ rfl (RouteM.cells _) (by (repeat (first | assumption | exact cells_new _ _ _ (by simp) | refine CellsAt.alloc ?_ _ | refine CellsAt.drew ?_ | refine CellsAt.drewN ?_ _))) _ Try.underlying26 rfl (by kernel_rfl) ?_)
  refine (rib_del_nil r w4).mono ?_
  rintro e w5 ⟨rfl, hf5⟩
  have Hf5 := hide (Hf4.out.tr hf5)
  clear hc4 hf5
  go_wp2_with fail
  refine (rib_active_nil 0 ⟨none, 0, 0⟩ w5).mono ?_
  rintro e w6 ⟨rfl, hf6⟩
  have Hf6 := hide (Hf5.out.tr hf6)
  clear hf6
  go_wp2_with fail
  refine (rib_all_nil w6).mono ?_
  rintro e w7 ⟨rfl, hf7⟩
  have Hf7 := hide (Hf6.out.tr hf7)
  clear hf7
  go_wp2_with fail
  refine (rib_copy_nil w7).mono ?_
  rintro e w8 ⟨rfl, hf8⟩
  have Hf8 := hide (Hf7.out.tr hf8)
  clear hf8
  go_wp2_with fail
  refine (law_known w8).mono ?_
  rintro e w9 ⟨rfl, hf9⟩
  have Hf9 := hide (Hf8.out.tr hf9)
  clear hf9
  go_wp2_with fail
  go_ret
  exact ⟨rfl, Hf9.out⟩
end Go.Proofs.Ytdmghildjadjeaa
