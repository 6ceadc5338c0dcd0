/- The document's answer to chapter 11: Del. -/
import Derived.Test.YtdmghildjadjeaaRibDocAdd
namespace Go.Proofs.Ytdmghildjadjeaa
open Go.RowKit Go.BigFrame
set_option linter.unusedSimpArgs false
set_option linter.unusedVariables false
attribute [local irreducible] wpMix wpAnyG

set_option maxRecDepth 100000 in
set_option maxHeartbeats 4000000 in
theorem doc_del (w : World) (F : Nat → Prop) (g : Nat) (l : List RouteM) (h : Doc w F g l) (r : RouteM) :
    Calls Try.prog 35 #[.pointer (some ⟨g, 0, none⟩), .agg r.cells.toArray] w (DocTo w F g (delR l r).l (.int .i64 (delR l r).e)) := by
  have H := hide h
  have hgl := h.lt g h.here
  have hlen := h.len
  clear h
  go_enter Try.func35, Try.ntmps35
  go_upto_region 1 with (fail)
  refine wp_gen (fun W => CellsAt W w.heap.size 0 r.cells ∧ Fr noB w W ∧ W.heap.size = w.heap.size + 1) ⟨by (repeat (first | assumption | exact cells_new _ _ _ (by simp) | refine CellsAt.alloc ?_ _ | refine CellsAt.drew ?_ | refine CellsAt.drewN ?_ _)), (Fr.refl _ _).alloc _, by simp⟩ ?_
  rintro w2 ⟨hc2, hf, hw1⟩
  have Hf2 := hide hf
  clear hf
  go_wp2_with (refine wpList_load_at rfl 26 _ rfl _ _ rfl (RouteM.cells _) (by (repeat (first | assumption | exact cells_new _ _ _ (by simp) | refine CellsAt.alloc ?_ _ | refine CellsAt.drew ?_ | refine CellsAt.drewN ?_ _))) _ Try.underlying26 rfl (by kernel_rfl) ?_)
  refine (doc_place w2 F g l (H.out.frN Hf2.out) r).mono ?_
  rintro e w3 ⟨rfl, hf3⟩
  have Hf3 := hide (Hf2.out.tr hf3)
  have hw3 : w.heap.size < w3.heap.size := by have := hf3.size; omega
  clear hf3 hc2
  obtain ⟨⟨⟨sa, sl, sc⟩, hblk, hown, hF2⟩, _⟩ := H.out.frN Hf3.out
  have hsl : sl = l.length := hown.1
  have hmax : sl ≤ 256 := by rw [hsl]; exact hlen
  have hslc : sl ≤ sc := by
    rcases hown.2 with h | ⟨_, _, _, _, _, h, _⟩
    · simp only [SlV.mk.injEq] at h; omega
    · exact h
  have Hnc := hide hown.nilcap
  have Hblk := hide hblk; have Hown := hide hown; have HF2 := hide hF2; have Hsl := hide hsl
  clear hblk hown hF2 hsl
  unfold searchV
  have hple := posR_le l r
  cases hh : hasR l r with
  | false =>
    have HA := hide (show delR l r = ⟨7, l⟩ from by unfold delR; rw [hh]; rfl)
    generalize posR l r = i at *
    clear hh
    go_wp2_with fail
    go_ret
    unfold DocTo
    rw [HA.out]
    exact ⟨rfl, H.out.same Hf3.out⟩
  | true =>
    have hilt := hasR_lt hh
    have HA := hide (show delR l r = ⟨0, l.take (posR l r) ++ l.drop (posR l r + 1)⟩ from by unfold delR; rw [hh]; rfl)
    generalize posR l r = i at *
    clear hh
    have hil : i < sl := by have := Hsl.out; omega
    have hic : i ≤ sc := by omega
    have hgw3 : g < w3.heap.size := Hblk.out.lt
    obtain ⟨gs, rfl, _, _, _⟩ := own_at Hown.out RouteM.length (List.getElem?_eq_getElem hilt)
    have hm1 : (((i : Int) + 1) * 6).toNat = (i + 1) * 6 := by omega
    have hg3 : ∀ z : Grow w3, z.v.cell? ⟨g, 0, none⟩ = some (.slice (some ⟨gs, 0, none⟩) sl sc) := fun z => (Hblk.out.fr z.fr (fun h => h)).cell 0
    by_cases hci : sc = i + 1
    all_goals
      go_upto_region 4 with (fail)
      refine wp_region_mixT 19 (fun W => ∃ z : Grow w3, W = z.v) (by kernel_rfl) (by kernel_rfl) (inGrow (Fr.refl _ _).drew) ?_
      simp only [List.take_succ_cons, List.take_zero, List.drop_succ_cons, List.drop_zero]
      (first | (refine wpMix_skip rfl ?_; simp only [Act.put, List.setIfInBounds_toArray, List.set_cons_succ, List.set_cons_zero]) | (refine wpMix_calm rfl rfl (fun K hK => ?_); go_big_quiet_op; refine hK _ ?_; clear hK K))
      refine wpMix_build0 rfl 35 rfl Try.underlying35 (by kernel_rfl) (inGrow ((Fr.refl _ _).drew.alloc _)) ?_
      simp only [Act.put, List.setIfInBounds_toArray, List.set_cons_succ, List.set_cons_zero]
      iterate 6 (first | (refine wpMix_skip rfl ?_; simp only [Act.put, List.setIfInBounds_toArray, List.set_cons_succ, List.set_cons_zero]) | (refine wpMix_calm rfl rfl (fun K hK => ?_); go_big_quiet_op; refine hK _ ?_; clear hK K))
      refine wpMix_append_new (w0 := w3) (N := 6) (cells := RouteM.cells) (xs := []) (s := ⟨some ⟨w3.drew.heap.size, 0, none⟩, 0, 0⟩) (q := ⟨some ⟨gs, 0, none⟩, i, _⟩) (ys := l.take i) (ok := fun _ => True) rfl (.tmp 16) (.tmp 22) 35 rfl Try.underlying35 _ 48 route_info (by kernel_rfl) (by decide) RouteM.length RouteM.mem rfl (NewL.zero _ _ (Fr.refl _ _).drew _ _ _) ((Fr.refl _ _).drew.alloc _) rfl (SlOf.fr (own_take Hown.out i _ hple) ((Fr.refl noB _).drew.alloc _) (fun _ _ h => h) (fun _ h => h)) (fun h => by cases h) (by simp [maxLen, List.length_take]; omega) (by simp [List.length_take]; omega) ?_
      intro s4 w4 hn4 hf4 _
      have Hn4 := hide (show NewL w3 w4 26 6 RouteM.cells s4 (l.take i) from by simpa using hn4)
      have Hf4 := hide hf4
      clear hn4 hf4
      obtain ⟨s4a, s4l, s4c⟩ := s4
      simp only [Act.put, List.setIfInBounds_toArray, List.set_cons_succ, List.set_cons_zero]
      iterate 7 (first | (refine wpMix_skip rfl ?_; simp only [Act.put, List.setIfInBounds_toArray, List.set_cons_succ, List.set_cons_zero]) | (refine wpMix_calm rfl rfl (fun K hK => ?_); go_big_quiet_op; refine hK _ ?_; clear hK K))
      refine wpMix_append_new (w0 := w3) (N := 6) (cells := RouteM.cells) (xs := l.take i) (s := ⟨s4a, s4l, s4c⟩) (q := ⟨_, _, _⟩) (ys := l.drop (i + 1)) (ok := fun _ => True) rfl (.tmp 23) (.tmp 30) 35 rfl Try.underlying35 _ 48 route_info (by kernel_rfl) (by decide) RouteM.length RouteM.mem rfl Hn4.out Hf4.out rfl (by first | exact own_drop (Hown.out.fr Hf4.out (fun _ _ h => h)) _ _ (by have := Hsl.out; omega) (by have := Hsl.out; omega) | exact own_drop_end _ _ _ _ (by have := Hsl.out; omega) (by have := Hsl.out; omega)) (fun h => by cases h) (by have := Hsl.out; simp [maxLen, List.length_take, List.length_drop]; omega) (by have := Hsl.out; simp [List.length_take, List.length_drop]; omega) ?_
      intro s5 w5 hn5 hf5 _
      have Hn5 := hide hn5; have Hf5 := hide hf5
      clear hn5 hf5
      obtain ⟨s5a, s5l, s5c⟩ := s5
      simp only [Act.put, List.setIfInBounds_toArray, List.set_cons_succ, List.set_cons_zero]
      repeat (first | (refine wpMix_skip rfl ?_; simp only [Act.put, List.setIfInBounds_toArray, List.set_cons_succ, List.set_cons_zero]) | (refine wpMix_calm rfl rfl (fun K hK => ?_); go_big_quiet_op; refine hK _ ?_; clear hK K))
      refine wpMix_nil ?_
      have Hblk5 := hide (Hblk.out.fr Hf5.out (fun h => h))
      have c5 : w5.cell? ⟨g, 0, none⟩ = some (.slice _ sl _) := Hblk5.out.cell 0
      have z5 : w5.frozen? ⟨g, 0, none⟩ = false := Hblk5.out.free 0
      have hg5 : g < w5.heap.size := Hf5.out.lt hgw3
      clear hg3
      go_wp2_with fail
      go_ret
      unfold DocTo
      rw [HA.out]
      have hFR : Fr F w (w5.setCell ⟨g, 0, none⟩ (.slice s5a s5l s5c)) := ((Hf3.out.tr Hf5.out).mono (fun _ _ h => h.elim)).setCell (.inr H.out.here) _
      have hown5 : OwnR (w5.setCell ⟨g, 0, none⟩ (.slice s5a s5l s5c)) ⟨s5a, s5l, s5c⟩ (l.take i ++ l.drop (i + 1)) :=
        Hn5.out.1.fr ((Fr.refl (oneB g) w5).setCell (p := ⟨g, 0, none⟩) (.inr rfl) _) (fun b hb e => by unfold oneB at e; subst e; have := Hn5.out.2 b hb; omega)
      have hsub := del_sublist l i
      exact ⟨rfl, doc_upd H.out (s' := ⟨s5a, s5l, s5c⟩) (Hblk5.out.set 0 _) hown5 hFR (fun b hb => .inr (by have := Hn5.out.2 b hb; omega)) (Nat.le_trans hsub.length_le hlen) (fun y hy => H.out.wf y (hsub.subset hy)), hFR⟩
end Go.Proofs.Ytdmghildjadjeaa
