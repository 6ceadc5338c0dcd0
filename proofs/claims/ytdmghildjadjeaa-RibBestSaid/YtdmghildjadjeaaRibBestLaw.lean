/- The law RibBest, walked: it returns true. -/
import Derived.Test.YtdmghildjadjeaaRibPlayed
namespace Go.Proofs.Ytdmghildjadjeaa
open Go.RowKit Go.BigFrame
set_option linter.unusedSimpArgs false
set_option linter.unusedVariables false
attribute [local irreducible] wpMix wpAnyG

set_option maxRecDepth 100000 in
set_option maxHeartbeats 2000000 in
theorem law_best (s : SlV) (xs : List ActM) (table : Int) (p : PrefixM) (su : SlV) (up : List Bool) (w : World) (hs : Acts w s xs) (hu : Ups w su up) :
    Calls Try.prog 5 #[.slice s.a s.len s.cap, .int .i64 table, .agg p.cells.toArray, .slice su.a su.len su.cap] w fun e w' => e = .returned (.bool true) ∧ Fr noB w w' := by
  have Hs := hide hs; have Hu := hide hu
  have hul : su.len ≤ maxLen := hu.2.1
  unfold maxLen at hul
  clear hs hu
  obtain ⟨ua, ul, uc⟩ := su
  simp only at hul ⊢
  by_cases h20 : 20 < ul
  · go_enter Try.func5, Try.ntmps5
    go_wp2_with fail
    go_ret
    exact ⟨rfl, (Fr.refl _ _).alloc _⟩
  · go_enter Try.func5, Try.ntmps5
    go_upto_region 3 with (fail)
    refine wp_gen (fun W => CellsAt W w.heap.size 0 p.cells ∧ Fr noB w W) ⟨by (repeat (first | assumption | exact cells_new _ _ _ (by simp) | refine CellsAt.alloc ?_ _ | refine CellsAt.drew ?_ | refine CellsAt.drewN ?_ _)), (Fr.refl _ _).alloc _⟩ ?_
    rintro w1 ⟨hc, hf⟩
    have Hc := hide hc; have Hf := hide hf
    clear hc hf
    go_wp2_with fail
    refine (law_played s xs w1 (SlOf.fr Hs.out Hf.out (fun _ _ h => h) (fun _ h => h))).mono ?_
    rintro e w2 ⟨l, g, gx, rfl, hb⟩
    obtain ⟨hf2, F, G, hrib, hdoc, _⟩ := hb
    have Hf2 := hide (Hf.out.tr hf2); have Hrib := hide hrib; have Hdoc := hide hdoc
    have hcp : CellsAt w2 w.heap.size 0 p.cells := Hc.out.fr hf2 (fun h => h)
    have Hcp := hide hcp
    clear hf2 hrib hdoc
    go_wp2_with (refine wpList_load_at rfl 24 _ rfl _ _ rfl (PrefixM.cells _) (by (repeat (first | assumption | exact cells_new _ _ _ (by simp) | refine CellsAt.alloc ?_ _ | refine CellsAt.drew ?_ | refine CellsAt.drewN ?_ _))) _ Try.underlying24 rfl (by kernel_rfl) ?_)
    refine (rib_best w2 F g l Hrib.out table p ⟨ua, ul, uc⟩ up (SlOf.fr Hu.out Hf2.out (fun _ _ h => h) (fun _ h => h))).mono ?_
    rintro e w3 ⟨rfl, hf3⟩
    rw [findP_active Hrib.out.sorted]
    have Hx := hide (show bestO l table p up = bestO l table p up from rfl)
    obtain ⟨x, hx⟩ : ∃ x, x = toBest (bestO l table p up) := ⟨_, rfl⟩
    rw [← hx]
    have HX := hide hx
    unfold bestV
    clear hcp hx
    go_upto_region 7 with (refine wpList_store_new rfl 26 _ _ rfl _ _ (RouteM.cells _) _ rfl rfl (by simp) (by kernel_rfl) rfl (by kernel_rfl) ?_)
    refine wp_gen (fun W => CellsAt W w3.heap.size 0 x.r.cells ∧ Fr noB w2 W ∧ W.heap.size = w3.heap.size + 1) ⟨cells_new _ _ _ rfl, hf3.alloc _, by simp⟩ ?_
    rintro w4 ⟨hc4, hf4, hs4⟩
    have Hc4 := hide hc4; have Hf4 := hide hf4
    have hcp : CellsAt w4 w.heap.size 0 p.cells := Hcp.out.fr hf4 (fun h => h)
    clear hc4 hf4 hf3
    go_wp2_with (refine wpList_load_at rfl 24 _ rfl _ _ rfl (PrefixM.cells _) (by (repeat (first | assumption | exact cells_new _ _ _ (by simp) | refine CellsAt.alloc ?_ _ | refine CellsAt.drew ?_ | refine CellsAt.drewN ?_ _))) _ Try.underlying24 rfl (by kernel_rfl) ?_)
    refine (doc_best w4 G gx l (Hdoc.out.frN Hf4.out) table p ⟨ua, ul, uc⟩ up (SlOf.fr Hu.out (Hf2.out.tr Hf4.out) (fun _ _ h => h) (fun _ h => h))).mono ?_
    rintro e w5 ⟨rfl, hf5⟩
    rw [← HX.out]
    unfold bestV
    clear hcp
    go_upto_region 8 with (refine wpList_store_new rfl 26 _ _ rfl _ _ (RouteM.cells _) _ rfl rfl (by simp) (by kernel_rfl) rfl (by kernel_rfl) ?_)
    refine wp_gen (fun W => CellsAt W w5.heap.size 0 x.r.cells ∧ Fr noB w4 W) ⟨cells_new _ _ _ rfl, hf5.alloc _⟩ ?_
    rintro w6 ⟨hc6, hf6⟩
    have Hf6 := hide (Hf4.out.tr hf6)
    have hc4 : CellsAt w6 w3.heap.size 0 x.r.cells := Hc4.out.fr hf6 (fun h => h)
    have hbb : (x.ok == x.ok) = true := by cases x.ok <;> rfl
    clear hf5 hf6
    go_wp2_with (first | (refine wpList_load_at rfl 26 (.tmp 12) rfl w3.heap.size 0 rfl x.r.cells hc4 _ Try.underlying26 rfl (by kernel_rfl) ?_) | (refine wpList_load_at rfl 26 (.tmp 14) rfl w5.heap.size 0 rfl x.r.cells hc6 _ Try.underlying26 rfl (by kernel_rfl) ?_) | (refine wpList_eqs rfl false 26 (.tmp 43) (.tmp 44) rfl x.r.cells.toArray x.r.cells.toArray rfl rfl true (by kernel_rfl) (by rw [route_equal, decide_eq_true rfl]) ?_; rw [show (false ^^ true) = true from rfl]))
    refine (rib_active w6 F g l (Hrib.out.frN Hf6.out) table ⟨ua, ul, uc⟩ up (SlOf.fr Hu.out (Hf2.out.tr Hf6.out) (fun _ _ h => h) (fun _ h => h))).mono ?_
    rintro e w7 ⟨s7, rfl, hn7, hf7⟩
    have Hn7 := hide hn7; have Hf7 := hide (Hf6.out.tr hf7)
    clear hn7 hf7 hc4 hc6
    go_wp2_with fail
    refine (doc_active w7 G gx l (Hdoc.out.frN Hf7.out) table ⟨ua, ul, uc⟩ up (SlOf.fr Hu.out (Hf2.out.tr Hf7.out) (fun _ _ h => h) (fun _ h => h))).mono ?_
    rintro e w8 ⟨s8, rfl, hn8, hf8⟩
    rw [← active_ref Hrib.out.sorted] at hn8
    have Hn8 := hide hn8; have Hn7' := hide (Hn7.out.fr hf8); have Hf8 := hide (Hf7.out.tr hf8)
    clear hn8 hf8
    go_wp2_with fail
    refine (law_routes s7 _ s8 _ w8 (Hn7'.out.slof RouteM.length (fun _ _ => trivial)) (Hn8.out.slof RouteM.length (fun _ _ => trivial))).mono ?_
    rintro e w9 ⟨rfl, hf9⟩
    rw [decide_eq_true rfl]
    have Hf9 := hide (Hf8.out.tr hf9)
    clear hf9
    go_wp2_with fail
    refine (law_known w9).mono ?_
    rintro e w10 ⟨rfl, hf10⟩
    have Hf10 := hide (Hf9.out.tr hf10)
    clear hf10
    go_wp2_with fail
    go_ret
    exact ⟨rfl, Hf2.out.tr Hf10.out⟩
end Go.Proofs.Ytdmghildjadjeaa
