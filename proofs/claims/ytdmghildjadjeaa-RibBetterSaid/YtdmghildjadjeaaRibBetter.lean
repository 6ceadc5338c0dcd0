/- The law RibBetter, walked: it returns true. -/
import Derived.Test.YtdmghildjadjeaaRibPlayed
namespace Go.Proofs.Ytdmghildjadjeaa
open Go.RowKit Go.BigFrame
set_option linter.unusedSimpArgs false
set_option linter.unusedVariables false
attribute [local irreducible] wpMix wpAnyG

def sameB (a b : RouteM) : Bool := decide (a.metric = b.metric ∧ a.iface = b.iface ∧ a.gate = b.gate)
theorem better_facts (a b c : RouteM) : (decide (betR a b) != decide (betR b a)) = !(sameB a b) ∧ (decide (betR a b) = true → decide (betR b c) = true → decide (betR a c) = true) := by
  constructor
  · unfold sameB betR
    by_cases h1 : a.metric = b.metric
    · by_cases h2 : a.iface = b.iface
      · by_cases h3 : a.gate = b.gate
        · simp [h1, h2, h3]
        · have : (a.gate < b.gate ∧ ¬ b.gate < a.gate) ∨ (¬ a.gate < b.gate ∧ b.gate < a.gate) := by omega
          rcases this with ⟨h4, h5⟩ | ⟨h4, h5⟩ <;> simp [h1, h2, h3, h4, h5]
      · have : (a.iface < b.iface ∧ ¬ b.iface < a.iface) ∨ (¬ a.iface < b.iface ∧ b.iface < a.iface) := by omega
        have h2' : ¬ b.iface = a.iface := fun h => h2 h.symm
        rcases this with ⟨h4, h5⟩ | ⟨h4, h5⟩ <;> simp [h1, h2, h2', h4, h5]
    · have : (a.metric < b.metric ∧ ¬ b.metric < a.metric) ∨ (¬ a.metric < b.metric ∧ b.metric < a.metric) := by omega
      have h1' : ¬ b.metric = a.metric := fun h => h1 h.symm
      rcases this with ⟨h4, h5⟩ | ⟨h4, h5⟩ <;> simp [h1, h1', h4, h5]
  · intro h1 h2
    exact decide_eq_true (betR_trans (of_decide_eq_true h1) (of_decide_eq_true h2))

theorem ne_way {x y s : Bool} (h : (x != y) = !s) : (x != !s) = y := by cases x <;> cases y <;> cases s <;> simp_all
theorem same_ways (a b : RouteM) : ((a.metric == b.metric) = false ∧ sameB a b = false) ∨ ((a.metric == b.metric) = true ∧ (a.iface == b.iface) = false ∧ sameB a b = false) ∨
    ((a.metric == b.metric) = true ∧ (a.iface == b.iface) = true ∧ ((a.gate : Int) == (b.gate : Int)) = false ∧ sameB a b = false) ∨ ((a.metric == b.metric) = true ∧ (a.iface == b.iface) = true ∧ ((a.gate : Int) == (b.gate : Int)) = true ∧ sameB a b = true) := by
  unfold sameB
  by_cases h1 : a.metric = b.metric <;> by_cases h2 : a.iface = b.iface <;> by_cases h3 : a.gate = b.gate <;> simp [h1, h2, h3] <;> omega

set_option maxRecDepth 100000 in
set_option maxHeartbeats 4000000 in
theorem law_better (a b c : RouteM) (w : World) :
    Calls Try.prog 3 #[.agg a.cells.toArray, .agg b.cells.toArray, .agg c.cells.toArray] w fun e w' => e = .returned (.bool true) ∧ Fr noB w w' := by
  obtain ⟨F1, F2⟩ := better_facts a b c
  have HF1 := hide F1; have HF2 := hide F2
  clear F1 F2
  go_enter Try.func3, Try.ntmps3
  go_upto_region 1 with (fail)
  refine wp_gen (fun W => CellsAt W w.heap.size 0 a.cells ∧ CellsAt W (w.heap.size + 1) 0 b.cells ∧ CellsAt W (w.heap.size + 1 + 1) 0 c.cells ∧ Fr noB w W) ⟨by (repeat (first | assumption | exact cells_new _ _ _ (by simp) | refine CellsAt.alloc ?_ _ | refine CellsAt.drew ?_ | refine CellsAt.drewN ?_ _)), by (repeat (first | assumption | exact cells_new _ _ _ (by simp) | refine CellsAt.alloc ?_ _ | refine CellsAt.drew ?_ | refine CellsAt.drewN ?_ _)), by (repeat (first | assumption | exact cells_new _ _ _ (by simp) | refine CellsAt.alloc ?_ _ | refine CellsAt.drew ?_ | refine CellsAt.drewN ?_ _)), (((Fr.refl _ _).alloc _).alloc _).alloc _⟩ ?_
  rintro w1 ⟨ha, hb, hc, hf⟩
  have Ha := hide ha; have Hb := hide hb; have Hc := hide hc; have Hf := hide hf
  clear hf
  refine wp_region_mix (fun W => ∃ z : Grow w1, W = z.v) (by kernel_rfl) (by kernel_rfl) (inGrow (Fr.refl _ _).drew) ?_
  (refine wpMix_load_atw rfl 26 (.tmp 3) rfl _ _ rfl (RouteM.cells _) (fun W hW => by obtain ⟨z, rfl⟩ := hW; exact CellsAt.fr (by (repeat (first | assumption | exact cells_new _ _ _ (by simp) | refine CellsAt.alloc ?_ _ | refine CellsAt.drew ?_ | refine CellsAt.drewN ?_ _))) z.fr (fun h => h)) _ Try.underlying26 rfl (by kernel_rfl) ?_; simp only [Act.put, List.setIfInBounds_toArray, List.set_cons_succ, List.set_cons_zero])
  (refine wpMix_load_atw rfl 26 (.tmp 4) rfl _ _ rfl (RouteM.cells _) (fun W hW => by obtain ⟨z, rfl⟩ := hW; exact CellsAt.fr (by (repeat (first | assumption | exact cells_new _ _ _ (by simp) | refine CellsAt.alloc ?_ _ | refine CellsAt.drew ?_ | refine CellsAt.drewN ?_ _))) z.fr (fun h => h)) _ Try.underlying26 rfl (by kernel_rfl) ?_; simp only [Act.put, List.setIfInBounds_toArray, List.set_cons_succ, List.set_cons_zero])
  refine wpMix_spine rfl rfl (fun K hK => ?_); go_wp2_with fail
  refine (rib_better a b _).mono ?_
  rintro e w2 ⟨rfl, hf2⟩
  have Hf2 := hide ((Fr.refl noB w1).drew.tr hf2)
  refine hK _ _ rfl (inGrow Hf2.out) ?_
  clear hK K hf2
  (refine wpMix_load_atw rfl 26 (.tmp 4) rfl _ _ rfl (RouteM.cells _) (fun W hW => by obtain ⟨z, rfl⟩ := hW; exact CellsAt.fr (by (repeat (first | assumption | exact cells_new _ _ _ (by simp) | refine CellsAt.alloc ?_ _ | refine CellsAt.drew ?_ | refine CellsAt.drewN ?_ _))) z.fr (fun h => h)) _ Try.underlying26 rfl (by kernel_rfl) ?_; simp only [Act.put, List.setIfInBounds_toArray, List.set_cons_succ, List.set_cons_zero])
  (refine wpMix_load_atw rfl 26 (.tmp 3) rfl _ _ rfl (RouteM.cells _) (fun W hW => by obtain ⟨z, rfl⟩ := hW; exact CellsAt.fr (by (repeat (first | assumption | exact cells_new _ _ _ (by simp) | refine CellsAt.alloc ?_ _ | refine CellsAt.drew ?_ | refine CellsAt.drewN ?_ _))) z.fr (fun h => h)) _ Try.underlying26 rfl (by kernel_rfl) ?_; simp only [Act.put, List.setIfInBounds_toArray, List.set_cons_succ, List.set_cons_zero])
  refine wpMix_spine rfl rfl (fun K hK => ?_); go_wp2_with fail
  refine (rib_better b a _).mono ?_
  rintro e w3 ⟨rfl, hf3⟩
  have Hf3 := hide (Hf2.out.tr hf3)
  refine hK _ _ rfl (inGrow Hf3.out) ?_
  clear hK K hf3 ha hb hc
  rw [betterB_eq, betterB_eq]
  repeat (first | (refine wpMix_skip rfl ?_; simp only [Act.put, List.setIfInBounds_toArray, List.set_cons_succ, List.set_cons_zero]) | (refine wpMix_calm rfl rfl (fun K hK => ?_); go_big_quiet_op; refine hK _ ?_; clear hK K))
  refine wpMix_nil ?_
  have Hfw := hide (Hf.out.tr Hf3.out)
  have ha : CellsAt w3 w.heap.size 0 a.cells := Ha.out.fr Hf3.out (fun h => h)
  have hb : CellsAt w3 (w.heap.size + 1) 0 b.cells := Hb.out.fr Hf3.out (fun h => h)
  have hc : CellsAt w3 (w.heap.size + 1 + 1) 0 c.cells := Hc.out.fr Hf3.out (fun h => h)
  have Ha3 := hide ha; have Hb3 := hide hb; have Hc3 := hide hc
  generalize hgx : decide (betR a b) = x at *
  generalize hgy : decide (betR b a) = y at *
  have Hgx := hide hgx
  clear hgx hgy
  obtain ⟨_, _, _, a3, a4, a5⟩ := route_now ha
  obtain ⟨_, _, _, b3, b4, b5⟩ := route_now hb
  simp only [Nat.zero_add] at a3 a4 a5 b3 b4 b5
  clear ha hb hc Ha Hb Hc
  rcases same_ways a b with ⟨e1, es⟩ | ⟨e1, e2, es⟩ | ⟨e1, e2, e3, es⟩ | ⟨e1, e2, e3, es⟩
  all_goals
    rw [es] at HF1
    have hy := ne_way HF1.out
    clear es HF1
    go_upto_region 3 with (fail)
    try clear e1
    try clear e2
    try clear e3
    clear a3 a4 a5 b3 b4 b5
    have ha : CellsAt w3 w.heap.size 0 a.cells := Ha3.out
    have hb : CellsAt w3 (w.heap.size + 1) 0 b.cells := Hb3.out
    cases x with
    | false =>
      obtain rfl := hy
      go_wp2_with (refine wpList_load_at rfl 26 _ rfl _ _ rfl (RouteM.cells _) (by (repeat (first | assumption | exact cells_new _ _ _ (by simp) | refine CellsAt.alloc ?_ _ | refine CellsAt.drew ?_ | refine CellsAt.drewN ?_ _))) _ Try.underlying26 rfl (by kernel_rfl) ?_)
      refine (ref_better a b _).mono ?_
      rintro e w4 ⟨rfl, hf4⟩
      rw [Hgx.out]
      have Hf4 := hide (Hfw.out.tr hf4)
      clear ha hb hf4
      go_wp2_with fail
      refine (law_known w4).mono ?_
      rintro e w7 ⟨rfl, hf7⟩
      have Hf7 := hide (Hf4.out.tr hf7)
      clear hf7
      go_wp2_with fail
      go_ret
      exact ⟨rfl, Hf7.out⟩
    | true =>
      obtain rfl := hy
      go_wp2_with (refine wpList_load_at rfl 26 _ rfl _ _ rfl (RouteM.cells _) (by (repeat (first | assumption | exact cells_new _ _ _ (by simp) | refine CellsAt.alloc ?_ _ | refine CellsAt.drew ?_ | refine CellsAt.drewN ?_ _))) _ Try.underlying26 rfl (by kernel_rfl) ?_)
      refine (ref_better a b _).mono ?_
      rintro e w4 ⟨rfl, hf4⟩
      rw [Hgx.out]
      have Hf4 := hide (Hfw.out.tr hf4)
      have ha4 : CellsAt w4 w.heap.size 0 a.cells := Ha3.out.fr hf4 (fun h => h)
      have hb4 : CellsAt w4 (w.heap.size + 1) 0 b.cells := Hb3.out.fr hf4 (fun h => h)
      have hc4 : CellsAt w4 (w.heap.size + 1 + 1) 0 c.cells := Hc3.out.fr hf4 (fun h => h)
      clear ha hb hf4
      go_wp2_with (refine wpList_load_atw rfl 26 _ rfl _ _ rfl (RouteM.cells _) (by (repeat (first | assumption | exact cells_new _ _ _ (by simp) | refine CellsAt.alloc ?_ _ | refine CellsAt.drew ?_ | refine CellsAt.drewN ?_ _))) _ Try.underlying26 rfl (by kernel_rfl) ?_)
      refine (rib_better b c _).mono ?_
      rintro e w5 ⟨rfl, hf5⟩
      rw [betterB_eq]
      have Hf5 := hide (Hf4.out.tr hf5)
      have ha5 : CellsAt w5 w.heap.size 0 a.cells := ha4.fr hf5 (fun h => h)
      have hc5 : CellsAt w5 (w.heap.size + 1 + 1) 0 c.cells := hc4.fr hf5 (fun h => h)
      clear hf5 ha4 hb4 hc4
      cases hbc : decide (betR b c) with
      | false =>
        clear hbc ha5 hc5
        go_wp2_with fail
        refine (law_known w5).mono ?_
        rintro e w7 ⟨rfl, hf7⟩
        have Hf7 := hide (Hf5.out.tr hf7)
        clear hf7
        go_wp2_with fail
        go_ret
        exact ⟨rfl, Hf7.out⟩
      | true =>
        have Hac := hide (HF2.out (by simp) hbc)
        clear hbc
        go_wp2_with (refine wpList_load_atw rfl 26 _ rfl _ _ rfl (RouteM.cells _) (by (repeat (first | assumption | exact cells_new _ _ _ (by simp) | refine CellsAt.alloc ?_ _ | refine CellsAt.drew ?_ | refine CellsAt.drewN ?_ _))) _ Try.underlying26 rfl (by kernel_rfl) ?_)
        refine (rib_better a c _).mono ?_
        rintro e w6 ⟨rfl, hf6⟩
        rw [betterB_eq, Hac.out]
        have Hf6 := hide (Hf5.out.tr hf6)
        clear hf6 ha5 hc5
        go_wp2_with fail
        refine (law_known w6).mono ?_
        rintro e w7 ⟨rfl, hf7⟩
        have Hf7 := hide (Hf6.out.tr hf7)
        clear hf7
        go_wp2_with fail
        go_ret
        exact ⟨rfl, Hf7.out⟩
end Go.Proofs.Ytdmghildjadjeaa
