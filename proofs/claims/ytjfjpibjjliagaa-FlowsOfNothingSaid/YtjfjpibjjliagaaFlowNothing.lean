/- The law FlowsOfNothing, walked: it returns true. -/
import Derived.Test.YtjfjpibjjliagaaFlowAct
namespace Go.Proofs.Ytjfjpibjjliagaa
open Go.RowKit Go.BigFrame
set_option linter.unusedSimpArgs false
set_option linter.unusedVariables false
attribute [local irreducible] wpMix wpAnyG

set_option maxRecDepth 100000 in
set_option maxHeartbeats 2000000 in
theorem law_nothing (f : FlowM) (hwf : f.wf) (w : World) :
    Calls Try.prog 7 #[.agg f.cells.toArray] w fun e w' => e = .returned (.bool true) ∧ Fr noB w w' := by
  go_enter Try.func7, Try.ntmps7
  go_upto_region 1 with (fail)
  refine wp_gen (fun W => CellsAt W w.heap.size 0 f.cells ∧ Fr noB w W) ⟨by (repeat (first | assumption | exact cells_new _ _ _ (by simp) | refine CellsAt.alloc ?_ _ | refine CellsAt.drew ?_ | refine CellsAt.drewN ?_ _)), (Fr.refl _ _).alloc _⟩ ?_
  rintro w1 ⟨hcf, hf⟩
  have c8 : w1.cell? ⟨w.heap.size, 8, none⟩ = some (.string f.routeTo.iface) := by have := hcf 8 _ rfl; rwa [Nat.zero_add] at this
  have c11 : w1.cell? ⟨w.heap.size, 11, none⟩ = some (.string f.replyTo.iface) := by have := hcf 11 _ rfl; rwa [Nat.zero_add] at this
  have h1 : f.routeTo.iface.size ≤ maxLen := hwf.2.2.2.1.1
  have h2 : f.replyTo.iface.size ≤ maxLen := hwf.2.2.2.2.1.1
  have Hcf := hide hcf; have Hf := hide hf
  clear hf
  have hck := key_of_flow hcf
  clear hcf
  go_wp2_with (refine wpList_load_at rfl 25 _ rfl _ _ rfl (KeyM.cells _) (by (repeat (first | assumption | exact cells_new _ _ _ (by simp) | refine CellsAt.alloc ?_ _ | refine CellsAt.drew ?_ | refine CellsAt.drewN ?_ _))) _ Try.underlying25 rfl (by kernel_rfl) ?_)
  · go_ret
    exact ⟨rfl, Hf.out⟩
  · clear hck c8 c11
    refine (flows_find_nil f.key _).mono ?_
    rintro e w2 ⟨rfl, f2⟩
    unfold foundV
    have Hf2 := hide (Hf.out.tr f2); have hcf2 := Hcf.out.fr f2 (fun h => h)
    clear f2
    go_upto_region 5 with (refine wpList_store_new rfl 29 _ _ rfl _ _ (FlowM.cells _) _ rfl rfl (by simp) (by kernel_rfl) rfl (by kernel_rfl) ?_)
    refine wp_gen (fun W => CellsAt W w.heap.size 0 f.cells ∧ Fr noB w2 W) ⟨by (repeat (first | assumption | exact cells_new _ _ _ (by simp) | refine CellsAt.alloc ?_ _ | refine CellsAt.drew ?_ | refine CellsAt.drewN ?_ _)), (Fr.refl _ _).alloc _⟩ ?_
    rintro w3 ⟨hcf3, f3⟩
    have Hf3 := hide (Hf2.out.tr f3)
    have Hcf3 := hide hcf3
    clear f3 hcf2
    go_wp2_with (refine wpList_load_at rfl 29 _ rfl _ _ rfl (FlowM.cells _) (by (repeat (first | assumption | exact cells_new _ _ _ (by simp) | refine CellsAt.alloc ?_ _ | refine CellsAt.drew ?_ | refine CellsAt.drewN ?_ _))) _ Try.underlying29 rfl (by kernel_rfl) ?_)
    refine (flows_add_nil f _).mono ?_
    rintro e w4 ⟨rfl, f4⟩
    have Hf4 := hide (Hf3.out.tr f4); have hcf4 := Hcf3.out.fr f4 (fun h => h)
    clear f4 hcf3
    go_wp2_with (refine wpList_load_atw rfl 29 (.tmp 1) rfl _ _ rfl f.cells (by (repeat (first | assumption | exact cells_new _ _ _ (by simp) | refine CellsAt.alloc ?_ _ | refine CellsAt.drew ?_ | refine CellsAt.drewN ?_ _))) _ Try.underlying29 rfl (by kernel_rfl) ?_)
    clear hcf4
    refine (flows_put_nil f _).mono ?_
    rintro e w5 ⟨rfl, f5⟩
    have Hf5 := hide (Hf4.out.tr f5)
    clear f5
    go_wp2_with fail
    refine (flows_expire_nil 5 _).mono ?_
    rintro e w' ⟨rfl, rfl⟩
    go_wp2_with fail
    refine (flows_list_nil _).mono ?_
    rintro e w6 ⟨s, rfl, n6, f6⟩
    have Hf6 := hide (Hf5.out.tr f6)
    have hs : s.len = 0 := n6.1.1
    rw [hs]
    clear f6 n6 hs
    go_wp2_with fail
    refine (flows_len_nil _).mono ?_
    rintro e w' ⟨rfl, rfl⟩
    go_wp2_with fail
    refine (law_known _).mono ?_
    rintro e w8 ⟨rfl, f8⟩
    have Hf8 := hide (Hf6.out.tr f8)
    clear f8
    go_wp2_with fail
    go_ret
    exact ⟨rfl, Hf8.out⟩
end Go.Proofs.Ytjfjpibjjliagaa
