/- The document's answer to chapter 11: before, Better, place. -/
import Derived.Test.YtdmghildjadjeaaRibBest
namespace Go.Proofs.Ytdmghildjadjeaa
open Go.RowKit Go.BigFrame
set_option linter.unusedSimpArgs false
set_option linter.unusedVariables false
attribute [local irreducible] wpMix wpAnyG

theorem pfx_cells {w : World} {g : Nat} {r : RouteM} (h : CellsAt w g 0 r.cells) : CellsAt w g 1 r.pfx.cells := cells_pre (ds := [.int .i64 r.iface, .int .u32 (r.gate : Nat), .int .i64 r.metric]) (by have h := cells_part h 1; exact h)
theorem beforeB_lt (a b : RouteM) (h1 : a.table = b.table) (h2 : a.pfx ≠ b.pfx) : beforeB a.pfx b.pfx = decide (ltR a b) := by
  obtain ⟨a1, ⟨a2, a3⟩, a4, a5, a6⟩ := a
  obtain ⟨b1, ⟨b2, b3⟩, b4, b5, b6⟩ := b
  simp only at h1
  subst h1
  simp only [ne_eq, PrefixM.mk.injEq, not_and] at h2
  unfold beforeB ltR
  simp only
  by_cases e : a2 = b2
  · have := h2 e
    rw [if_pos e]
    refine decide_eq_decide.2 ?_
    simp only [true_and]
    omega
  · rw [if_neg e]
    refine decide_eq_decide.2 ?_
    simp only [true_and]
    omega

set_option maxHeartbeats 1000000 in
theorem ref_before (a b : RouteM) (w : World) : Calls Try.prog 49 #[.agg a.cells.toArray, .agg b.cells.toArray] w fun e w' => e = .returned (.bool (decide (ltR a b))) ∧ Fr noB w w' := by
  go_enter Try.func49, Try.ntmps49
  go_upto_region 1 with (fail)
  refine wp_gen (fun W => CellsAt W w.heap.size 0 a.cells ∧ CellsAt W (w.heap.size + 1) 0 b.cells ∧ Fr noB w W) ⟨by (repeat (first | assumption | exact cells_new _ _ _ (by simp) | refine CellsAt.alloc ?_ _ | refine CellsAt.drew ?_ | refine CellsAt.drewN ?_ _)), by (repeat (first | assumption | exact cells_new _ _ _ (by simp) | refine CellsAt.alloc ?_ _ | refine CellsAt.drew ?_ | refine CellsAt.drewN ?_ _)), ((Fr.refl _ _).alloc _).alloc _⟩ ?_
  rintro w1 ⟨ha, hb, hf⟩
  have Hf := hide hf
  obtain ⟨a0, _, _, a3, a4, _⟩ := route_now ha
  obtain ⟨b0, _, _, b3, b4, _⟩ := route_now hb
  have hap := pfx_cells ha
  have hbp := pfx_cells hb
  simp only [Nat.zero_add] at a3 a4 b3 b4
  clear ha hb hf
  by_cases h1 : a.table = b.table
  · by_cases h2 : a.pfx = b.pfx
    · have hd := decide_eq_true h2
      by_cases h3 : a.iface = b.iface
      · have HR := hide (show decide (ltR a b) = decide ((a.gate : Int) < (b.gate : Int)) from decide_eq_decide.2 (by unfold ltR; rw [h1, h2, h3]; omega))
        clear h2
        go_wp2_with (first | (refine wpList_load_at rfl 24 (.tmp 17) rfl w.heap.size 1 rfl a.pfx.cells hap _ Try.underlying24 rfl (by kernel_rfl) ?_) | (refine wpList_load_at rfl 24 (.tmp 19) rfl (w.heap.size + 1) 1 rfl b.pfx.cells hbp _ Try.underlying24 rfl (by kernel_rfl) ?_) | (refine wpList_eqs rfl true 24 (.tmp 18) (.tmp 20) rfl a.pfx.cells.toArray b.pfx.cells.toArray rfl rfl true (by kernel_rfl) (by rw [prefix_equal, hd]) ?_; rw [show (true ^^ true) = false from rfl]))
        go_ret
        exact ⟨ret_bool (by rw [HR.out]; try simp), Hf.out⟩
      · have HR := hide (show decide (ltR a b) = decide (a.iface < b.iface) from decide_eq_decide.2 (by unfold ltR; rw [h1, h2]; omega))
        clear h2
        go_wp2_with (first | (refine wpList_load_at rfl 24 (.tmp 17) rfl w.heap.size 1 rfl a.pfx.cells hap _ Try.underlying24 rfl (by kernel_rfl) ?_) | (refine wpList_load_at rfl 24 (.tmp 19) rfl (w.heap.size + 1) 1 rfl b.pfx.cells hbp _ Try.underlying24 rfl (by kernel_rfl) ?_) | (refine wpList_eqs rfl true 24 (.tmp 18) (.tmp 20) rfl a.pfx.cells.toArray b.pfx.cells.toArray rfl rfl true (by kernel_rfl) (by rw [prefix_equal, hd]) ?_; rw [show (true ^^ true) = false from rfl]))
        go_ret
        exact ⟨ret_bool HR.out.symm, Hf.out⟩
    · have hd := decide_eq_false h2
      have HR := hide (beforeB_lt a b h1 h2)
      clear h2
      go_wp2_with (first | (refine wpList_load_at rfl 24 (.tmp 17) rfl w.heap.size 1 rfl a.pfx.cells hap _ Try.underlying24 rfl (by kernel_rfl) ?_) | (refine wpList_load_at rfl 24 (.tmp 19) rfl (w.heap.size + 1) 1 rfl b.pfx.cells hbp _ Try.underlying24 rfl (by kernel_rfl) ?_) | (refine wpList_load_at rfl 24 (.tmp 22) rfl w.heap.size 1 rfl a.pfx.cells hap _ Try.underlying24 rfl (by kernel_rfl) ?_) | (refine wpList_load_at rfl 24 (.tmp 24) rfl (w.heap.size + 1) 1 rfl b.pfx.cells hbp _ Try.underlying24 rfl (by kernel_rfl) ?_) | (refine wpList_eqs rfl true 24 (.tmp 18) (.tmp 20) rfl a.pfx.cells.toArray b.pfx.cells.toArray rfl rfl false (by kernel_rfl) (by rw [prefix_equal, hd]) ?_; rw [show (true ^^ false) = true from rfl]))
      refine (ref3_Before a.pfx b.pfx _).mono ?_
      rintro e w2 ⟨rfl, hf2⟩
      have Hf2 := hide hf2
      rw [HR.out]
      clear hf2 hap hbp a0 a3 a4 b0 b3 b4
      go_wp2_with fail
      go_ret
      exact ⟨rfl, Hf.out.tr Hf2.out⟩
  · have HR := hide (show decide (ltR a b) = decide (a.table < b.table) from decide_eq_decide.2 (by unfold ltR; omega))
    go_wp2_with fail
    go_ret
    exact ⟨ret_bool HR.out.symm, Hf.out⟩

set_option maxHeartbeats 1000000 in
theorem ref_better (a b : RouteM) (w : World) : Calls Try.prog 12 #[.agg a.cells.toArray, .agg b.cells.toArray] w fun e w' => e = .returned (.bool (decide (betR a b))) ∧ Fr noB w w' := by
  go_enter Try.func12, Try.ntmps12
  go_upto_region 1 with (fail)
  refine wp_gen (fun W => CellsAt W w.heap.size 0 a.cells ∧ CellsAt W (w.heap.size + 1) 0 b.cells ∧ Fr noB w W) ⟨by (repeat (first | assumption | exact cells_new _ _ _ (by simp) | refine CellsAt.alloc ?_ _ | refine CellsAt.drew ?_ | refine CellsAt.drewN ?_ _)), by (repeat (first | assumption | exact cells_new _ _ _ (by simp) | refine CellsAt.alloc ?_ _ | refine CellsAt.drew ?_ | refine CellsAt.drewN ?_ _)), ((Fr.refl _ _).alloc _).alloc _⟩ ?_
  rintro w1 ⟨ha, hb, hf⟩
  have Hf := hide hf
  obtain ⟨_, _, _, a3, a4, a5⟩ := route_now ha
  obtain ⟨_, _, _, b3, b4, b5⟩ := route_now hb
  simp only [Nat.zero_add] at a3 a4 a5 b3 b4 b5
  clear ha hb hf
  by_cases h1 : a.metric = b.metric
  · by_cases h3 : a.iface = b.iface
    · have HR := hide (show decide (betR a b) = decide ((a.gate : Int) < (b.gate : Int)) from decide_eq_decide.2 (by unfold betR; rw [h1, h3]; omega))
      go_wp2_with fail
      go_ret
      exact ⟨ret_bool (by rw [HR.out]; try simp), Hf.out⟩
    · have HR := hide (show decide (betR a b) = decide (a.iface < b.iface) from decide_eq_decide.2 (by unfold betR; rw [h1]; omega))
      go_wp2_with fail
      go_ret
      exact ⟨ret_bool HR.out.symm, Hf.out⟩
  · have HR := hide (show decide (betR a b) = decide (a.metric < b.metric) from decide_eq_decide.2 (by unfold betR; omega))
    go_wp2_with fail
    go_ret
    exact ⟨ret_bool HR.out.symm, Hf.out⟩
end Go.Proofs.Ytdmghildjadjeaa
