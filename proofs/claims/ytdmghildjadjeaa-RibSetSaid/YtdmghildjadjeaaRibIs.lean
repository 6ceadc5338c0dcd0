/- rib: New, Is, All, Copy, Add, Del; the document's Is. -/
import Derived.Test.YtdmghildjadjeaaRibSearch
import Derived.Test.YtdmghildjadjeaaRibDel
namespace Go.Proofs.Ytdmghildjadjeaa
open Go.RowKit Go.BigFrame
set_option linter.unusedSimpArgs false
set_option linter.unusedVariables false
attribute [local irreducible] wpMix wpAnyG

set_option maxHeartbeats 1000000 in
theorem rib_is (r : RouteM) (hr : r.wf) (w : World) : Calls Try.prog 23 #[.agg r.cells.toArray] w fun e w' => e = .returned (.bool (isR r)) ∧ Fr noB w w' := by
  go_enter Try.func23, Try.ntmps23
  go_upto_region 1 with (fail)
  refine wp_gen (fun W => CellsAt W w.heap.size 0 r.cells ∧ Fr noB w W) ⟨by (repeat (first | assumption | exact cells_new _ _ _ (by simp) | refine CellsAt.alloc ?_ _ | refine CellsAt.drew ?_ | refine CellsAt.drewN ?_ _)), (Fr.refl _ _).alloc _⟩ ?_
  rintro w1 ⟨hc, hf⟩
  have Hc := hide hc; have Hf := hide hf
  obtain ⟨a0, _, _, a3, _, a5⟩ := route_now hc
  simp only [Nat.zero_add] at a3 a5
  have hp : CellsAt w1 w.heap.size 1 r.pfx.cells := cells_pre (ds := [.int .i64 r.iface, .int .u32 (r.gate : Nat), .int .i64 r.metric]) (by have h := cells_part hc 1; exact h)
  clear hc hf
  by_cases ht : 0 ≤ r.table ∧ r.table < 4
  · obtain ⟨ht1, ht2⟩ := ht
    go_wp2_with (refine wpList_load_at rfl 24 _ rfl _ _ rfl (PrefixM.cells _) (by (repeat (first | assumption | exact cells_new _ _ _ (by simp) | refine CellsAt.alloc ?_ _ | refine CellsAt.drew ?_ | refine CellsAt.drewN ?_ _))) _ Try.underlying24 rfl (by kernel_rfl) ?_)
    refine (addr_Is r.pfx hr.2.1 _).mono ?_
    rintro e w2 ⟨rfl, hf2⟩
    have Hf2 := hide hf2
    obtain ⟨_, _, _, b3, _, b5⟩ := route_now (Hc.out.fr hf2 (fun h => h))
    simp only [Nat.zero_add] at b3 b5
    clear hf2 a0 a3 a5 hp
    by_cases hp : r.pfx = normP r.pfx
    · rw [decide_eq_true hp]
      by_cases hi1 : 0 ≤ r.iface
      · by_cases hi2 : r.iface < 8
        · by_cases hm1 : 0 ≤ r.metric
          · by_cases hm2 : r.metric ≤ 255
            · have HR := hide (show isR r = true from decide_eq_true ⟨ht1, ht2, hp.symm, hi1, hi2, hm1, hm2⟩)
              clear hp
              go_wp2_with fail
              go_ret
              exact ⟨ret_bool (by rw [HR.out]; try (simp; try omega)), Hf.out.tr Hf2.out⟩
            · have HR := hide (show isR r = false from decide_eq_false (fun h => hm2 h.2.2.2.2.2.2))
              clear hp
              go_wp2_with fail
              go_ret
              exact ⟨ret_bool (by rw [HR.out]; try (simp; try omega)), Hf.out.tr Hf2.out⟩
          · have HR := hide (show isR r = false from decide_eq_false (fun h => hm1 h.2.2.2.2.2.1))
            clear hp
            go_wp2_with fail
            go_ret
            exact ⟨ret_bool (by rw [HR.out]; try (simp; try omega)), Hf.out.tr Hf2.out⟩
        · have HR := hide (show isR r = false from decide_eq_false (fun h => hi2 h.2.2.2.2.1))
          clear hp
          go_wp2_with fail
          go_ret
          exact ⟨ret_bool (by rw [HR.out]; try (simp; try omega)), Hf.out.tr Hf2.out⟩
      · have HR := hide (show isR r = false from decide_eq_false (fun h => hi1 h.2.2.2.1))
        clear hp
        go_wp2_with fail
        go_ret
        exact ⟨ret_bool (by rw [HR.out]; try (simp; try omega)), Hf.out.tr Hf2.out⟩
    · rw [decide_eq_false hp]
      have HR := hide (show isR r = false from decide_eq_false (fun h => hp h.2.2.1.symm))
      clear hp
      go_wp2_with fail
      go_ret
      exact ⟨ret_bool (by rw [HR.out]; try (simp; try omega)), Hf.out.tr Hf2.out⟩
  · have HR := hide (show isR r = false from decide_eq_false (fun h => ht ⟨h.1, h.2.1⟩))
    have hor : r.table < 0 ∨ (0 ≤ r.table ∧ ¬ r.table < 4) := by omega
    clear ht
    rcases hor with h | ⟨h1, h2⟩
    all_goals
      go_wp2_with fail
      go_ret
      exact ⟨ret_bool (by rw [HR.out]; try (simp; try omega)), Hf.out⟩

set_option maxHeartbeats 1000000 in
theorem ref_is (r : RouteM) (hr : r.wf) (w : World) : Calls Try.prog 24 #[.agg r.cells.toArray] w fun e w' => e = .returned (.bool (isR r)) ∧ Fr noB w w' := by
  go_enter Try.func24, Try.ntmps24
  go_upto_region 1 with (fail)
  refine wp_gen (fun W => CellsAt W w.heap.size 0 r.cells ∧ Fr noB w W) ⟨by (repeat (first | assumption | exact cells_new _ _ _ (by simp) | refine CellsAt.alloc ?_ _ | refine CellsAt.drew ?_ | refine CellsAt.drewN ?_ _)), (Fr.refl _ _).alloc _⟩ ?_
  rintro w1 ⟨hc, hf⟩
  have Hc := hide hc; have Hf := hide hf
  obtain ⟨a0, _, _, a3, _, a5⟩ := route_now hc
  simp only [Nat.zero_add] at a3 a5
  have hp : CellsAt w1 w.heap.size 1 r.pfx.cells := cells_pre (ds := [.int .i64 r.iface, .int .u32 (r.gate : Nat), .int .i64 r.metric]) (by have h := cells_part hc 1; exact h)
  clear hc hf
  by_cases ht : 0 ≤ r.table ∧ r.table < 4
  · obtain ⟨ht1, ht2⟩ := ht
    go_wp2_with (refine wpList_load_at rfl 24 _ rfl _ _ rfl (PrefixM.cells _) (by (repeat (first | assumption | exact cells_new _ _ _ (by simp) | refine CellsAt.alloc ?_ _ | refine CellsAt.drew ?_ | refine CellsAt.drewN ?_ _))) _ Try.underlying24 rfl (by kernel_rfl) ?_)
    refine (ref3_Is r.pfx hr.2.1 _).mono ?_
    rintro e w2 ⟨rfl, hf2⟩
    have Hf2 := hide hf2
    obtain ⟨_, _, _, b3, _, b5⟩ := route_now (Hc.out.fr hf2 (fun h => h))
    simp only [Nat.zero_add] at b3 b5
    clear hf2 a0 a3 a5 hp
    by_cases hp : r.pfx = normP r.pfx
    · rw [decide_eq_true hp]
      by_cases hi1 : 0 ≤ r.iface
      · by_cases hi2 : r.iface < 8
        · by_cases hm1 : 0 ≤ r.metric
          · by_cases hm2 : r.metric ≤ 255
            · have HR := hide (show isR r = true from decide_eq_true ⟨ht1, ht2, hp.symm, hi1, hi2, hm1, hm2⟩)
              clear hp
              go_wp2_with fail
              go_ret
              exact ⟨ret_bool (by rw [HR.out]; try (simp; try omega)), Hf.out.tr Hf2.out⟩
            · have HR := hide (show isR r = false from decide_eq_false (fun h => hm2 h.2.2.2.2.2.2))
              clear hp
              go_wp2_with fail
              go_ret
              exact ⟨ret_bool (by rw [HR.out]; try (simp; try omega)), Hf.out.tr Hf2.out⟩
          · have HR := hide (show isR r = false from decide_eq_false (fun h => hm1 h.2.2.2.2.2.1))
            clear hp
            go_wp2_with fail
            go_ret
            exact ⟨ret_bool (by rw [HR.out]; try (simp; try omega)), Hf.out.tr Hf2.out⟩
        · have HR := hide (show isR r = false from decide_eq_false (fun h => hi2 h.2.2.2.2.1))
          clear hp
          go_wp2_with fail
          go_ret
          exact ⟨ret_bool (by rw [HR.out]; try (simp; try omega)), Hf.out.tr Hf2.out⟩
      · have HR := hide (show isR r = false from decide_eq_false (fun h => hi1 h.2.2.2.1))
        clear hp
        go_wp2_with fail
        go_ret
        exact ⟨ret_bool (by rw [HR.out]; try (simp; try omega)), Hf.out.tr Hf2.out⟩
    · rw [decide_eq_false hp]
      have HR := hide (show isR r = false from decide_eq_false (fun h => hp h.2.2.1.symm))
      clear hp
      go_wp2_with fail
      go_ret
      exact ⟨ret_bool (by rw [HR.out]; try (simp; try omega)), Hf.out.tr Hf2.out⟩
  · have HR := hide (show isR r = false from decide_eq_false (fun h => ht ⟨h.1, h.2.1⟩))
    have hor : r.table < 0 ∨ (0 ≤ r.table ∧ ¬ r.table < 4) := by omega
    clear ht
    rcases hor with h | ⟨h1, h2⟩
    all_goals
      go_wp2_with fail
      go_ret
      exact ⟨ret_bool (by rw [HR.out]; try (simp; try omega)), Hf.out⟩

end Go.Proofs.Ytdmghildjadjeaa
