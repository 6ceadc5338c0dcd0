/- A nil Dir has nothing. -/
import Derived.Test.YtgjabgneapdbiaaDirEnd
namespace Go.Proofs.Ytgjabgneapdbiaa
open Go.RowKit Go.BigFrame
set_option linter.unusedSimpArgs false
set_option linter.unusedVariables false
attribute [local irreducible] wpMix wpAnyG

set_option maxRecDepth 100000 in
set_option maxHeartbeats 2000000 in
theorem law_ofnothing (p : PrefixM) (a : Nat) (w : World) : Calls Try.prog 18 #[.agg p.cells.toArray, .int .u32 (a : Nat)] w fun e w' => e = .returned (.bool true) ∧ Fr noB w w' := by
  go_enter Try.func18, Try.ntmps18
  go_upto_region 1 with (fail)
  refine wp_gen (fun W => CellsAt W w.heap.size 0 p.cells ∧ Fr noB w W) ⟨by (repeat (first | assumption | exact cells_new _ _ _ (by simp) | refine CellsAt.alloc ?_ _ | refine CellsAt.drew ?_ | refine CellsAt.drewN ?_ _)), (Fr.refl _ _).alloc _⟩ ?_
  rintro w1 ⟨hc, hf⟩
  have Hc := hide hc; have Hf := hide hf
  clear hf hc
  go_wp2_with fail
  refine (dir_look_nil w1 a).mono ?_
  rintro e w2 ⟨rfl, hf2⟩
  unfold getV
  have Hf2 := hide (Hf.out.tr hf2)
  have hc2 : CellsAt w2 w.heap.size 0 p.cells := Hc.out.fr hf2 (fun h => h)
  have Hc2 := hide hc2
  clear hf2
  go_wp2_with (refine wpList_load_atw rfl 28 _ rfl _ _ rfl (PrefixM.cells _) (by (repeat (first | assumption | exact cells_new _ _ _ (by simp) | refine CellsAt.alloc ?_ _ | refine CellsAt.drew ?_ | refine CellsAt.drewN ?_ _))) _ Try.underlying28 rfl (by kernel_rfl) ?_)
  refine (dir_set_nil w2 p 1).mono ?_
  rintro e w3 ⟨rfl, hf3⟩
  have Hf3 := hide (Hf2.out.tr hf3)
  have hc3 : CellsAt w3 w.heap.size 0 p.cells := Hc2.out.fr hf3 (fun h => h)
  clear hf3 hc2
  go_wp2_with (refine wpList_load_atw rfl 28 _ rfl _ _ rfl (PrefixM.cells _) (by (repeat (first | assumption | exact cells_new _ _ _ (by simp) | refine CellsAt.alloc ?_ _ | refine CellsAt.drew ?_ | refine CellsAt.drewN ?_ _))) _ Try.underlying28 rfl (by kernel_rfl) ?_)
  refine (dir_del_nil w3 p).mono ?_
  rintro e w4 ⟨rfl, hf4⟩
  have Hf4 := hide (Hf3.out.tr hf4)
  clear hf4 hc3
  go_wp2_with fail
  refine (dir_blocks_nil w4).mono ?_
  rintro e w5 ⟨rfl, rfl⟩
  go_wp2_with fail
  refine (dir_len_nil w5).mono ?_
  rintro e w6 ⟨rfl, rfl⟩
  go_wp2_with fail
  refine (dir_known w6).mono ?_
  rintro e w7 ⟨rfl, hf7⟩
  have Hf7 := hide (Hf4.out.tr hf7)
  clear hf7
  go_wp2_with fail
  go_ret
  exact ⟨rfl, Hf7.out⟩
end Go.Proofs.Ytgjabgneapdbiaa
