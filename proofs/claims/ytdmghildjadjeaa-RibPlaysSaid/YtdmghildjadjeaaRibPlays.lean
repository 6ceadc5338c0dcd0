/- The law RibPlays, walked: it returns true. -/
import Derived.Test.YtdmghildjadjeaaRibPlayed
namespace Go.Proofs.Ytdmghildjadjeaa
open Go.RowKit Go.BigFrame
set_option linter.unusedSimpArgs false
set_option linter.unusedVariables false
attribute [local irreducible] wpMix wpAnyG

set_option maxRecDepth 100000 in
set_option maxHeartbeats 2000000 in
theorem law_plays (s : SlV) (xs : List ActM) (r : RouteM) (hr : r.wf) (w : World) (hs : Acts w s xs) :
    Calls Try.prog 7 #[.slice s.a s.len s.cap, .agg r.cells.toArray] w fun e w' => e = .returned (.bool true) ∧ Fr noB w w' := by
  have Hs := hide hs
  clear hs
  go_enter Try.func7, Try.ntmps7
  go_upto_region 1 with (fail)
  refine wp_gen (fun W => CellsAt W w.heap.size 0 r.cells ∧ Fr noB w W) ⟨by (repeat (first | assumption | exact cells_new _ _ _ (by simp) | refine CellsAt.alloc ?_ _ | refine CellsAt.drew ?_ | refine CellsAt.drewN ?_ _)), (Fr.refl _ _).alloc _⟩ ?_
  rintro w1 ⟨hc, hf⟩
  have Hc := hide hc; have Hf := hide hf
  clear hc hf
  go_wp2_with fail
  refine (law_played s xs w1 (SlOf.fr Hs.out Hf.out (fun _ _ h => h) (fun _ h => h))).mono ?_
  rintro e w2 ⟨l, g, gx, rfl, hb⟩
  obtain ⟨hf2, F, G, hrib, hdoc, _⟩ := hb
  have Hf2 := hide (Hf.out.tr hf2); have Hrib := hide hrib
  have hcr : CellsAt w2 w.heap.size 0 r.cells := Hc.out.fr hf2 (fun h => h)
  obtain ⟨⟨⟨sa, sl, sc⟩, hblk, hown, _⟩, _⟩ := hdoc
  have Hown := hide hown
  have hg0 : ∀ z : Grow w2, z.v.cell? ⟨gx, 0, none⟩ = some (.slice sa sl sc) := fun z => (hblk.fr z.fr (fun h => h)).cell 0
  clear hf2 hrib hblk hown
  go_upto_region 2 with (fail)
  refine wp_region_mix (fun W => ∃ z : Grow w2, W = z.v) (by kernel_rfl) (by kernel_rfl) (inGrow (Fr.refl _ _).drew) ?_
  iterate 3 (first | (refine wpMix_skip rfl ?_; simp only [Act.put, List.setIfInBounds_toArray, List.set_cons_succ, List.set_cons_zero]) | (refine wpMix_calm rfl rfl (fun K hK => ?_); go_big_quiet_op; refine hK _ ?_; clear hK K))
  refine wpMix_spine rfl rfl (fun K hK => ?_); go_wp2_with fail
  refine (rib_all w2.drew F g l (Hrib.out.frN (Fr.refl noB w2).drew)).mono ?_
  rintro e w3 ⟨s3, rfl, hn3, hf3⟩
  have Hn3 := hide hn3; have Hf3 := hide ((Fr.refl noB w2).drew.tr hf3)
  refine hK _ _ rfl (inGrow Hf3.out) ?_
  clear hK K hn3 hf3
  iterate 4 (first | (refine wpMix_skip rfl ?_; simp only [Act.put, List.setIfInBounds_toArray, List.set_cons_succ, List.set_cons_zero]) | (refine wpMix_calm rfl rfl (fun K hK => ?_); go_big_quiet_op; refine hK _ ?_; clear hK K))
  refine wpMix_spine rfl rfl (fun K hK => ?_); go_wp2_with fail
  refine (law_routes s3 l ⟨sa, sl, sc⟩ l w3 (Hn3.out.slof RouteM.length (fun _ _ => trivial)) ((Hown.out.fr Hf3.out (fun _ _ h => h)).slof RouteM.length (fun _ _ => trivial))).mono ?_
  rintro e w4 ⟨rfl, hf4⟩
  rw [decide_eq_true rfl]
  have Hf4 := hide (Hf3.out.tr hf4)
  refine hK _ _ rfl (inGrow Hf4.out) ?_
  clear hK K hf4
  iterate 2 (first | (refine wpMix_skip rfl ?_; simp only [Act.put, List.setIfInBounds_toArray, List.set_cons_succ, List.set_cons_zero]) | (refine wpMix_calm rfl rfl (fun K hK => ?_); go_big_quiet_op; refine hK _ ?_; clear hK K))
  (refine wpMix_load_atw rfl 26 (.tmp 3) rfl _ _ rfl (RouteM.cells _) (fun W hW => by obtain ⟨z, rfl⟩ := hW; exact CellsAt.fr (by (repeat (first | assumption | exact cells_new _ _ _ (by simp) | refine CellsAt.alloc ?_ _ | refine CellsAt.drew ?_ | refine CellsAt.drewN ?_ _))) z.fr (fun h => h)) _ Try.underlying26 rfl (by kernel_rfl) ?_; simp only [Act.put, List.setIfInBounds_toArray, List.set_cons_succ, List.set_cons_zero])
  refine wpMix_spine rfl rfl (fun K hK => ?_); go_wp2_with fail
  refine (rib_is r hr w4).mono ?_
  rintro e w5 ⟨rfl, hf5⟩
  have Hf5 := hide (Hf4.out.tr hf5)
  refine hK _ _ rfl (inGrow Hf5.out) ?_
  clear hK K hf5
  (refine wpMix_load_atw rfl 26 (.tmp 3) rfl _ _ rfl (RouteM.cells _) (fun W hW => by obtain ⟨z, rfl⟩ := hW; exact CellsAt.fr (by (repeat (first | assumption | exact cells_new _ _ _ (by simp) | refine CellsAt.alloc ?_ _ | refine CellsAt.drew ?_ | refine CellsAt.drewN ?_ _))) z.fr (fun h => h)) _ Try.underlying26 rfl (by kernel_rfl) ?_; simp only [Act.put, List.setIfInBounds_toArray, List.set_cons_succ, List.set_cons_zero])
  refine wpMix_spine rfl rfl (fun K hK => ?_); go_wp2_with fail
  refine (ref_is r hr w5).mono ?_
  rintro e w6 ⟨rfl, hf6⟩
  have Hf6 := hide (Hf5.out.tr hf6)
  refine hK _ _ rfl (inGrow Hf6.out) ?_
  clear hK K hf6
  generalize isR r = bb at *
  have hbb : (bb == bb) = true := by cases bb <;> rfl
  iterate 3 (first | (refine wpMix_skip rfl ?_; simp only [Act.put, List.setIfInBounds_toArray, List.set_cons_succ, List.set_cons_zero]) | (refine wpMix_calm rfl rfl (fun K hK => ?_); go_big_quiet_op; refine hK _ ?_; clear hK K))
  refine wpMix_spine rfl rfl (fun K hK => ?_); go_wp2_with fail
  refine (law_known w6).mono ?_
  rintro e w7 ⟨rfl, hf7⟩
  have Hf7 := hide (Hf6.out.tr hf7)
  refine hK _ _ rfl (inGrow Hf7.out) ?_
  clear hK K hf7
  repeat (first | (refine wpMix_skip rfl ?_; simp only [Act.put, List.setIfInBounds_toArray, List.set_cons_succ, List.set_cons_zero]) | (refine wpMix_calm rfl rfl (fun K hK => ?_); go_big_quiet_op; refine hK _ ?_; clear hK K))
  refine wpMix_nil ?_
  clear hg0 hcr
  go_wp2_with fail
  go_ret
  exact ⟨rfl, Hf2.out.tr Hf7.out⟩
end Go.Proofs.Ytdmghildjadjeaa
