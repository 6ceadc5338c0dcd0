/- The closed test of chapter 15's laws. -/
import Derived.Test.YtgdbafgkledpbaaMatchHelp
import Derived.Test.YtgdbafgkledpbaaMix
namespace Go.Proofs.Ytgdbafgkledpbaa
open Go.RowKit Go.BigFrame
set_option linter.unusedSimpArgs false
set_option linter.unusedVariables false

/-- From w on nothing that was there has changed. -/
abbrev InGrow (w : World) (w' : World) : Prop := ∃ z : Grow w, w' = z.v
theorem inGrow {w w' : World} (h : Fr noB w w') : InGrow w w' := ⟨⟨w', h⟩, rfl⟩
theorem grow_fr {w w' : World} (h : InGrow w w') : Fr noB w w' := by obtain ⟨z, rfl⟩ := h; exact z.fr

def zeroP : PacketM := ⟨⟨0, 0, false, false, 0, 0, 0, 0, 0, ⟨none, 0, 0⟩, ⟨none, 0, 0⟩⟩, 0, 0, 0, 0, 0, 0, none⟩
theorem packet_one (p : PacketM) : p.cells.toArray.all (·.oneCell') = true := by simp [PacketM.cells, Value.oneCell']
theorem zeroP_wf : zeroP.wf := by simp [zeroP, PacketM.wf, IPM.wf, i64b]
theorem plainR_wf (b : Bool) : (plainR b).wf := by simp [plainR, plainS, RuleM.wf, SideM.wf, PrefixM.wf, PortsM.wf, PinM.wf, i64b, maxLen, ByteArray.size]
theorem last_known : lastI [plainR false, plainR true] [] ⟨#[97]⟩ zeroP = 1 := by
  decide +kernel

set_option maxRecDepth 100000 in
set_option maxHeartbeats 1000000 in
theorem law_known (w : World) : Calls Try.prog 16 #[] w fun e w' => e = .returned (.bool true) ∧ Fr noB w w' := by
  go_enter Try.func16, Try.ntmps16
  go_upto_region 2 with (refine wpList_store_row rfl 30 (.tmp 1) (.tmp 2) rfl _ zeroP.cells.toArray rfl rfl _ _ (heap_alloc_new _ _) (by kernel_rfl) rfl (packet_one _) ?_)
  refine wp_gen (fun w2 => Blk w2 w.heap.size zeroP.cells.toArray 30 ∧ Fr noB w w2) ⟨(Blk.alloc_new _ _ _).setRow, ((Fr.refl _ _).alloc _).setRow (.inl (Nat.le_refl _)) _⟩ ?_
  rintro w2 ⟨hb, hf⟩
  have hcp : ∀ W, InGrow w2 W → CellsAt W w.heap.size 0 zeroP.cells := fun W h => (hb.cells).fr (grow_fr h) (fun h => h)
  refine wp_region_mix (fun W => ∃ z : Grow w2, W = z.v) (by kernel_rfl) (by kernel_rfl) (inGrow (Fr.refl _ _).drew) ?_
  refine wpMix_spine rfl rfl (fun K hK => ?_)
  go_simp
  refine (law_plain false _).mono ?_
  rintro e w3 ⟨rfl, hf3⟩
  have hf3 : Fr noB w2 w3 := (Fr.refl _ _).drew.tr hf3
  refine hK _ _ rfl (inGrow hf3) ?_
  clear hK K
  refine wpMix_spine rfl rfl (fun K hK => ?_)
  go_simp
  refine (law_plain true _).mono ?_
  rintro e w4 ⟨rfl, hf4⟩
  have hf4 : Fr noB w2 w4 := hf3.tr hf4
  refine hK _ _ rfl (inGrow hf4) ?_
  clear hK K
  refine wpMix_buildSlice rfl 22 2 _ rfl #[(0, .agg (plainR false).cells.toArray), (1, .agg (plainR true).cells.toArray)] (by kernel_rfl) Try.underlying22 (.agg plainZ.toArray) 28 (by kernel_rfl)
    ((plainR false).cells ++ (plainR true).cells).toArray (by decide) (by decide) (by kernel_rfl) (inGrow (hf4.alloc _)) ?_
  have hq : Rules (w4.alloc (.cells ((plainR false).cells ++ (plainR true).cells).toArray 43)) ⟨some ⟨w4.heap.size, 0, none⟩, 2, 2⟩ [plainR false, plainR true] := by
    have h := slof_blk (cells := RuleM.cells) (ok := RuleM.wf) (xs := [plainR false, plainR true]) (junk := []) RuleM.length (Blk.alloc_new w4 _ 43) (fun x hx => by simp at hx; rcases hx with rfl | rfl <;> exact plainR_wf _) 2 (by decide)
    have e : [plainR false, plainR true].flatMap RuleM.cells ++ [] = (plainR false).cells ++ (plainR true).cells := by simp
    rw [e] at h
    exact h
  have hf5 : Fr noB w2 (w4.alloc (.cells ((plainR false).cells ++ (plainR true).cells).toArray 43)) := hf4.alloc _
  generalize w4.alloc _ = w5 at *
  refine wpMix_load_at rfl 30 (.tmp 1) rfl _ _ rfl zeroP.cells hcp _ Try.underlying30 rfl (by kernel_rfl) ?_
  simp only [Act.put, List.setIfInBounds_toArray, List.set_cons_succ, List.set_cons_zero]
  refine wpMix_spine rfl rfl (fun K hK => ?_)
  go_simp
  refine (match_last ⟨some ⟨w4.heap.size, 0, none⟩, 2, 2⟩ _ zeroP zeroP_wf ⟨#[97]⟩ ⟨none, 0, 0⟩ [] _ hq ⟨rfl, by decide, .inl rfl⟩).mono ?_
  rintro e w6 ⟨rfl, hf6⟩
  rw [last_known]
  refine hK _ _ rfl (inGrow (hf5.tr hf6)) ?_
  clear hK K
  refine wpMix_calm rfl rfl (fun K hK => ?_)
  go_big_quiet_op
  refine hK _ ?_
  clear hK K
  refine wpMix_calm rfl rfl (fun K hK => ?_)
  go_big_quiet_op
  refine hK _ ?_
  clear hK K
  refine wpMix_nil ?_
  have HF := hide ((hf.tr hf5).tr hf6)
  clear hf5 hf6 hf4 hf3 hf hcp hb hq
  go_wp2_with fail
  go_ret
  exact ⟨rfl, HF.out⟩
end Go.Proofs.Ytgdbafgkledpbaa
