/- The law TrieLongest, walked: it returns true. -/
import Derived.Test.YtgjabgneapdbiaaTrieDocLong
namespace Go.Proofs.Ytgjabgneapdbiaa
open Go.RowKit Go.BigFrame
set_option linter.unusedSimpArgs false
set_option linter.unusedVariables false
attribute [local irreducible] wpMix wpAnyG

set_option maxRecDepth 100000 in
set_option maxHeartbeats 4000000 in
theorem law_longest (s : SlV) (xs : List TActM) (a : Nat) (ha : a < 4294967296) (p : PrefixM) (hp : p.wf) (w : World) (hs : TActs w s xs) :
    Calls Try.prog 5 #[.slice s.a s.len s.cap, .int .u32 (a : Nat), .agg p.cells.toArray] w fun e w' => e = .returned (.bool true) ∧ Fr noB w w' := by
  have Hs := hide hs; have Hp := hide hp
  clear hs hp
  go_enter Try.func5, Try.ntmps5
  go_upto_region 1 with (fail)
  refine wp_gen (fun W => CellsAt W w.heap.size 0 p.cells ∧ Fr noB w W) ⟨by (repeat (first | assumption | exact cells_new _ _ _ (by simp) | refine CellsAt.alloc ?_ _ | refine CellsAt.drew ?_ | refine CellsAt.drewN ?_ _)), (Fr.refl _ _).alloc _⟩ ?_
  rintro w1 ⟨hc1, hf1⟩
  have Hc1 := hide hc1; have Hf1 := hide hf1
  clear hc1 hf1
  go_wp2_with fail
  refine (law_laid s xs w1 (SlOf.fr Hs.out Hf1.out (fun _ _ h => h) (fun _ h => h))).mono ?_
  rintro e w2 ⟨l, g, gx, rfl, hlen, hb⟩
  obtain ⟨hf2, F, G, htr, hdoc, _⟩ := hb
  have Hf2 := hide (Hf1.out.tr hf2); have Htr := hide htr; have Hdoc := hide hdoc
  have Hc2 := hide (show CellsAt w2 w.heap.size 0 p.cells from Hc1.out.fr hf2 (fun h => h))
  clear hf2 htr hdoc
  obtain ⟨q, v, b, hq⟩ := long_three (longE l a)
  have Hq := hide hq
  clear hq
  go_wp2_with fail
  refine (trie_long w2 F g l 161 Htr.out a ha).mono ?_
  rintro e w3 ⟨rfl, hf3⟩
  rw [Hq.out]
  have Hf3 := hide hf3
  clear hf3
  go_upto_region 5 with (refine wpList_store_new rfl 28 _ _ rfl _ _ (PrefixM.cells _) _ rfl rfl (by simp) (by kernel_rfl) rfl (by kernel_rfl) ?_)
  refine wp_gen (fun W => CellsAt W w3.heap.size 0 q.cells ∧ Fr noB w2 W) ⟨cells_new _ _ _ rfl, Hf3.out.alloc _⟩ ?_
  rintro w4 ⟨hc4, hf4⟩
  have Hc4 := hide hc4; have Hf4 := hide hf4
  clear hc4 hf4
  go_wp2_with fail
  refine (doc_long w4 G gx _ [] l (Hdoc.out.frN Hf4.out) Htr.out.sorted Htr.out.ok a ha).mono ?_
  rintro e w5 ⟨rfl, hf5⟩
  rw [Hq.out]
  have Hf5 := hide hf5
  clear hf5
  go_upto_region 6 with (refine wpList_store_new rfl 28 _ _ rfl _ _ (PrefixM.cells _) _ rfl rfl (by simp) (by kernel_rfl) rfl (by kernel_rfl) ?_)
  refine wp_gen (fun W => CellsAt W w5.heap.size 0 q.cells ∧ Fr noB w4 W) ⟨cells_new _ _ _ rfl, Hf5.out.alloc _⟩ ?_
  rintro w6 ⟨hc6, hf6⟩
  have Hc6 := hide hc6; have Hf6 := hide (Hf4.out.tr hf6)
  have Hc46 := hide (Hc4.out.fr hf6 (fun h => h)); have Hp6 := hide (Hc2.out.fr Hf6.out (fun h => h))
  have hvv : (v == v) = true := by simp
  have hbb : (b == b) = true := by cases b <;> rfl
  clear hc6 hf6
  refine wp_region_mix (fun W => ∃ z : Grow w6, W = z.v) (by kernel_rfl) (by kernel_rfl) (inGrow (Fr.refl _ _).drew) ?_
  refine wpMix_load_atw rfl 28 (.tmp 9) rfl w3.heap.size 0 rfl q.cells (fun W hW => by obtain ⟨z, rfl⟩ := hW; exact Hc46.out.fr z.fr (fun h => h)) _ Try.underlying28 rfl (by kernel_rfl) ?_
  simp only [Act.put, List.setIfInBounds_toArray, List.set_cons_succ, List.set_cons_zero]
  refine wpMix_load_atw rfl 28 (.tmp 12) rfl w5.heap.size 0 rfl q.cells (fun W hW => by obtain ⟨z, rfl⟩ := hW; exact Hc6.out.fr z.fr (fun h => h)) _ Try.underlying28 rfl (by kernel_rfl) ?_
  simp only [Act.put, List.setIfInBounds_toArray, List.set_cons_succ, List.set_cons_zero]
  refine wpMix_eqs rfl false 28 (.tmp 36) (.tmp 37) rfl q.cells.toArray q.cells.toArray rfl rfl true (by kernel_rfl) (fun w => by rw [prefix_equal, decide_eq_true rfl]) ?_
  simp only [Act.put, List.setIfInBounds_toArray, List.set_cons_succ, List.set_cons_zero]
  iterate 12 (first | (refine wpMix_skip rfl ?_; simp only [Act.put, List.setIfInBounds_toArray, List.set_cons_succ, List.set_cons_zero]) | (refine wpMix_calm rfl rfl (fun K hK => ?_); go_big_quiet_op; refine hK _ ?_; clear hK K))
  refine wpMix_load_atw rfl 28 (.tmp 5) rfl w.heap.size 0 rfl p.cells (fun W hW => by obtain ⟨z, rfl⟩ := hW; exact Hp6.out.fr z.fr (fun h => h)) _ Try.underlying28 rfl (by kernel_rfl) ?_
  simp only [Act.put, List.setIfInBounds_toArray, List.set_cons_succ, List.set_cons_zero]
  refine wpMix_spine rfl rfl (fun K hK => ?_); go_wp2_with fail
  refine (trie_covers w6.drew F g l 161 (Htr.out.frN (Hf6.out.drew)) p Hp.out).mono ?_
  rintro e w7 ⟨s7, rfl, hn7, f7⟩
  have f7 : Fr noB w6 w7 := (Fr.refl _ _).drew.tr f7
  have F7 := hide f7; have Hn7 := hide hn7
  refine hK _ _ rfl (inGrow f7) ?_
  clear hK K f7 hn7
  (first | (refine wpMix_skip rfl ?_; simp only [Act.put, List.setIfInBounds_toArray, List.set_cons_succ, List.set_cons_zero]) | (refine wpMix_calm rfl rfl (fun K hK => ?_); go_big_quiet_op; refine hK _ ?_; clear hK K))
  refine wpMix_load_atw rfl 28 (.tmp 5) rfl w.heap.size 0 rfl p.cells (fun W hW => by obtain ⟨z, rfl⟩ := hW; exact Hp6.out.fr z.fr (fun h => h)) _ Try.underlying28 rfl (by kernel_rfl) ?_
  simp only [Act.put, List.setIfInBounds_toArray, List.set_cons_succ, List.set_cons_zero]
  refine wpMix_spine rfl rfl (fun K hK => ?_); go_wp2_with fail
  refine (doc_covers w7 G gx _ [] l (Hdoc.out.frN (Hf6.out.tr F7.out)) Htr.out.sorted Htr.out.ok p Hp.out).mono ?_
  rintro e w8 ⟨s8, rfl, hn8, f8⟩
  have Hn78 := hide (Hn7.out.fr f8)
  have F8 := hide (F7.out.tr f8); have Hn8 := hide hn8
  refine hK _ _ rfl (inGrow F8.out) ?_
  clear hK K f8 hn8
  refine wpMix_spine rfl rfl (fun K hK => ?_); go_wp2_with fail
  refine (law_prefixes s7 _ s8 _ w8 (Hn78.out.slof PrefixM.length (fun _ _ => trivial)) (Hn8.out.slof PrefixM.length (fun _ _ => trivial))).mono ?_
  rintro e w9 ⟨rfl, f9⟩
  rw [decide_eq_true rfl]
  have F9 := hide (F8.out.tr f9)
  refine hK _ _ rfl (inGrow F9.out) ?_
  clear hK K f9
  iterate 2 (first | (refine wpMix_skip rfl ?_; simp only [Act.put, List.setIfInBounds_toArray, List.set_cons_succ, List.set_cons_zero]) | (refine wpMix_calm rfl rfl (fun K hK => ?_); go_big_quiet_op; refine hK _ ?_; clear hK K))
  refine wpMix_spine rfl rfl (fun K hK => ?_); go_wp2_with fail
  refine (law_known w9).mono ?_
  rintro e w10 ⟨rfl, f10⟩
  have F10 := hide (F9.out.tr f10)
  refine hK _ _ rfl (inGrow F10.out) ?_
  clear hK K f10
  repeat (first | (refine wpMix_skip rfl ?_; simp only [Act.put, List.setIfInBounds_toArray, List.set_cons_succ, List.set_cons_zero]) | (refine wpMix_calm rfl rfl (fun K hK => ?_); go_big_quiet_op; refine hK _ ?_; clear hK K))
  refine wpMix_nil ?_
  go_wp2_with fail
  go_ret
  exact ⟨rfl, Hf2.out.tr (Hf6.out.tr F10.out)⟩
end Go.Proofs.Ytgjabgneapdbiaa
