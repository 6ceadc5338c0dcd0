/- The document's answer to chapter 9: Del. -/
import Derived.Test.YtgjabgneapdbiaaTrieDocSet
namespace Go.Proofs.Ytgjabgneapdbiaa
open Go.RowKit Go.BigFrame
set_option linter.unusedSimpArgs false
set_option linter.unusedVariables false
attribute [local irreducible] wpMix wpAnyG

set_option maxRecDepth 100000 in
set_option maxHeartbeats 4000000 in
theorem doc_del (w : World) (F : Nat → Prop) (g : Nat) (ty : TypeId) (rest : List Value) (l : List EntM) (h : DocT w F g ty rest l) (p : PrefixM) :
    Calls Try.prog 35 #[.pointer (some ⟨g, 0, none⟩), .agg p.cells.toArray] w (DocTo w F g ty rest (delE l p) (.bool (hasE l p))) := by
  have H := hide h
  have hgl := h.lt g h.here
  clear h
  go_enter Try.func35, Try.ntmps35
  go_upto_region 1 with (fail)
  refine wp_gen (fun W => CellsAt W w.heap.size 0 p.cells ∧ Fr noB w W ∧ W.heap.size = w.heap.size + 1) ⟨by (repeat (first | assumption | exact cells_new _ _ _ (by simp) | refine CellsAt.alloc ?_ _ | refine CellsAt.drew ?_ | refine CellsAt.drewN ?_ _)), (Fr.refl _ _).alloc _, by simp⟩ ?_
  rintro w2 ⟨hc2, hf, hw1⟩
  have Hf2 := hide hf
  clear hf
  go_wp2_with (refine wpList_load_at rfl 28 _ rfl _ _ rfl (PrefixM.cells _) (by (repeat (first | assumption | exact cells_new _ _ _ (by simp) | refine CellsAt.alloc ?_ _ | refine CellsAt.drew ?_ | refine CellsAt.drewN ?_ _))) _ Try.underlying28 rfl (by kernel_rfl) ?_)
  refine (doc_place w2 F g ty rest l (H.out.frN Hf2.out) p).mono ?_
  rintro e w3 ⟨rfl, hf3⟩
  have Hf3 := hide (Hf2.out.tr hf3)
  have hw3 : w.heap.size < w3.heap.size := by have := hf3.size; omega
  clear hf3 hc2
  obtain ⟨⟨⟨pa, pl, pc⟩, ⟨va, vl, vc⟩, hblk, hop, hov, hFp, hFv⟩, _⟩ := H.out.frN Hf3.out
  have hpl : pl = l.length := hop.1
  have hvl : vl = l.length := hov.1
  have hmax : pl ≤ 1000 := by have := H.out.len; omega
  have hvmax : vl ≤ 1000 := by have := H.out.len; omega
  have hplc : pl ≤ pc := own_capG hop
  have hvlc : vl ≤ vc := own_capG hov
  have Hblk := hide hblk; have Hop := hide hop; have Hov := hide hov
  clear hblk hop hov hFv hFp
  unfold searchE
  have hple := posE_le l p
  cases hh : hasE l p with
  | false =>
    have HA := hide (show delE l p = l from by unfold delE; rw [hh]; rfl)
    have Hh := hide hh
    generalize posE l p = i at *
    have Hpl := hide hpl; have Hvl := hide hvl
    clear hh hpl hvl
    go_wp2_with fail
    go_ret
    unfold DocTo
    rw [HA.out, Hh.out]
    exact ⟨rfl, H.out.same Hf3.out⟩
  | true =>
    have hilt := hasE_lt hh
    have HA := hide (show delE l p = l.take (posE l p) ++ l.drop (posE l p + 1) from by unfold delE; rw [hh]; rfl)
    have Hh := hide hh
    generalize posE l p = i at *
    clear hh
    have hip : i < pl := by omega
    have hiv : i < vl := by omega
    have hipc : i ≤ pc := by omega
    have hivc : i ≤ vc := by omega
    have hgw3 : g < w3.heap.size := Hblk.out.lt
    obtain ⟨gp, rfl, _, _, _⟩ := own_at Hop.out pcE_length (List.getElem?_eq_getElem hilt)
    obtain ⟨gv, rfl, _, _, _⟩ := own_at Hov.out vcE_length (List.getElem?_eq_getElem hilt)
    have Hpl := hide hpl; have Hvl := hide hvl
    clear hpl hvl
    have hm1 : (((i : Int) + 1) * 2).toNat = (i + 1) * 2 := by omega
    have hm2 : (((i : Int) + 1) * 1).toNat = (i + 1) * 1 := by omega
    have hg3 : ∀ z : Grow w3, z.v.cell? ⟨g, 0, none⟩ = some (.slice (some ⟨gp, 0, none⟩) pl pc) := fun z => by rw [(Hblk.out.fr z.fr (fun h => h)).cell 0]; rfl
    by_cases hcp : pc = i + 1
    all_goals by_cases hcv : vc = i + 1
    all_goals
      go_upto_region 4 with (fail)
      refine wp_region_mixT 19 (fun W => ∃ z : Grow w3, W = z.v) (by kernel_rfl) (by kernel_rfl) (inGrow (Fr.refl _ _).drew) ?_
      simp only [List.take_succ_cons, List.take_zero, List.drop_succ_cons, List.drop_zero]
      (first | (refine wpMix_skip rfl ?_; simp only [Act.put, List.setIfInBounds_toArray, List.set_cons_succ, List.set_cons_zero]) | (refine wpMix_calm rfl rfl (fun K hK => ?_); go_big_quiet_op; refine hK _ ?_; clear hK K))
      refine wpMix_build0 rfl 41 rfl Try.underlying41 (by kernel_rfl) (inGrow ((Fr.refl _ _).drew.alloc _)) ?_
      simp only [Act.put, List.setIfInBounds_toArray, List.set_cons_succ, List.set_cons_zero]
      iterate 6 (first | (refine wpMix_skip rfl ?_; simp only [Act.put, List.setIfInBounds_toArray, List.set_cons_succ, List.set_cons_zero]) | (refine wpMix_calm rfl rfl (fun K hK => ?_); go_big_quiet_op; refine hK _ ?_; clear hK K))
      refine wpMix_append_new (w0 := w3) (N := 2) (cells := pcE) (xs := []) (s := ⟨some ⟨w3.drew.heap.size, 0, none⟩, 0, 0⟩) (q := ⟨some ⟨gp, 0, none⟩, i, _⟩) (ys := l.take i) (ok := fun _ => True) rfl (.tmp 16) (.tmp 22) 41 rfl Try.underlying41 _ 16 pfx_info (by kernel_rfl) (by decide) pcE_length pcE_mem rfl (NewL.zero _ _ (Fr.refl _ _).drew _ _ _) ((Fr.refl _ _).drew.alloc _) rfl (SlOf.fr (own_takeG pcE_length Hop.out i _ hple) ((Fr.refl noB _).drew.alloc _) (fun _ _ h => h) (fun _ h => h)) (fun h => by cases h) (by simp [maxLen, List.length_take]; omega) (by simp [List.length_take]; omega) ?_
      intro s4 w4 hn4 hf4 _
      have Hn4 := hide (show NewL w3 w4 28 2 pcE s4 (l.take i) from by simpa using hn4)
      have Hf4 := hide hf4
      clear hn4 hf4
      obtain ⟨s4a, s4l, s4c⟩ := s4
      simp only [Act.put, List.setIfInBounds_toArray, List.set_cons_succ, List.set_cons_zero]
      iterate 7 (first | (refine wpMix_skip rfl ?_; simp only [Act.put, List.setIfInBounds_toArray, List.set_cons_succ, List.set_cons_zero]) | (refine wpMix_calm rfl rfl (fun K hK => ?_); go_big_quiet_op; refine hK _ ?_; clear hK K))
      refine wpMix_append_new (w0 := w3) (N := 2) (cells := pcE) (xs := l.take i) (s := ⟨s4a, s4l, s4c⟩) (q := ⟨_, _, _⟩) (ys := l.drop (i + 1)) (ok := fun _ => True) rfl (.tmp 23) (.tmp 30) 41 rfl Try.underlying41 _ 16 pfx_info (by kernel_rfl) (by decide) pcE_length pcE_mem rfl Hn4.out Hf4.out rfl (by first | exact own_dropO pcE_length (Hop.out.fr Hf4.out (fun _ _ h => h)) _ _ _ (by have := Hpl.out; omega) (by have := Hpl.out; omega) (by omega) | exact own_endG _ _ _ _ (by have := Hpl.out; omega) (by have := Hpl.out; omega)) (fun h => by cases h) (by have := Hpl.out; simp [maxLen, List.length_take, List.length_drop]; omega) (by have := Hpl.out; simp [List.length_take, List.length_drop]; omega) ?_
      intro s5 w5 hn5 hf5 _
      have Hn5 := hide hn5; have Hf5 := hide hf5
      clear hn5 hf5
      obtain ⟨s5a, s5l, s5c⟩ := s5
      simp only [Act.put, List.setIfInBounds_toArray, List.set_cons_succ, List.set_cons_zero]
      repeat (first | (refine wpMix_skip rfl ?_; simp only [Act.put, List.setIfInBounds_toArray, List.set_cons_succ, List.set_cons_zero]) | (refine wpMix_calm rfl rfl (fun K hK => ?_); go_big_quiet_op; refine hK _ ?_; clear hK K))
      refine wpMix_nil ?_
      have Hblk5 := hide (Hblk.out.fr Hf5.out (fun h => h))
      have c5 := Hblk5.out.cell 0
      simp only [List.getElem?_toArray, List.getElem?_cons_zero] at c5
      have z5 : w5.frozen? ⟨g, 0, none⟩ = false := Hblk5.out.free 0
      have hg5 : g < w5.heap.size := Hf5.out.lt hgw3
      clear hg3
      go_upto_region 5 with (fail)
      have Hblk6 := hide (Hblk5.out.set 0 (.slice s5a s5l s5c))
      have Hf6 := hide (show Fr (oneB g) w5 (w5.setCell ⟨g, 0, none⟩ (.slice s5a s5l s5c)) from (Fr.refl (oneB g) _).setCell (p := ⟨g, 0, none⟩) (.inr rfl) _)
      generalize w5.setCell ⟨g, 0, none⟩ (.slice s5a s5l s5c) = w6 at *
      clear c5 z5 hg5
      have hnot : ∀ b, w3.heap.size ≤ b → ¬ oneB g b := fun b hb e => by unfold oneB at e; omega
      have Hn6 := hide (Hn5.out.frS Hf6.out (fun b hb => hnot b (Hn5.out.2 b hb)))
      have Hov6 := hide ((Hov.out.fr Hf5.out (fun _ _ h => h)).fr Hf6.out (fun b hb e => by unfold oneB at e; subst e; exact own_ne_blk Hblk.out Hov.out H.out.tys.2 hb))
      have Hb6 : Hid (Blk w6 g (.slice s5a s5l s5c :: .slice (some ⟨gv, 0, none⟩) vl vc :: rest).toArray ty) := hide (by have := Hblk6.out; simpa using this)
      have hg6 : ∀ z : Grow w6, z.v.cell? ⟨g, 1, none⟩ = some (.slice (some ⟨gv, 0, none⟩) vl vc) := fun z => by rw [(Hb6.out.fr z.fr (fun h => h)).cell 1]; rfl
      have hgw6 : g < w6.heap.size := Hb6.out.lt
      refine wp_region_mixT 19 (fun W => ∃ z : Grow w6, W = z.v) (by kernel_rfl) (by kernel_rfl) (inGrow (Fr.refl _ _).drew) ?_
      simp only [List.take_succ_cons, List.take_zero, List.drop_succ_cons, List.drop_zero]
      (first | (refine wpMix_skip rfl ?_; simp only [Act.put, List.setIfInBounds_toArray, List.set_cons_succ, List.set_cons_zero]) | (refine wpMix_calm rfl rfl (fun K hK => ?_); go_big_quiet_op; refine hK _ ?_; clear hK K))
      refine wpMix_build0 rfl 48 rfl Try.underlying48 (by kernel_rfl) (inGrow ((Fr.refl _ _).drew.alloc _)) ?_
      simp only [Act.put, List.setIfInBounds_toArray, List.set_cons_succ, List.set_cons_zero]
      iterate 6 (first | (refine wpMix_skip rfl ?_; simp only [Act.put, List.setIfInBounds_toArray, List.set_cons_succ, List.set_cons_zero]) | (refine wpMix_calm rfl rfl (fun K hK => ?_); go_big_quiet_op; refine hK _ ?_; clear hK K))
      refine wpMix_append_new (w0 := w6) (N := 1) (cells := vcE) (xs := []) (s := ⟨some ⟨w6.drew.heap.size, 0, none⟩, 0, 0⟩) (q := ⟨some ⟨gv, 0, none⟩, i, _⟩) (ys := l.take i) (ok := fun _ => True) rfl (.tmp 35) (.tmp 41) 48 rfl Try.underlying48 _ 8 int_info (by kernel_rfl) (by decide) vcE_length vcE_mem rfl (NewL.zero _ _ (Fr.refl _ _).drew _ _ _) ((Fr.refl _ _).drew.alloc _) rfl (SlOf.fr (own_takeG vcE_length Hov6.out i _ hple) ((Fr.refl noB _).drew.alloc _) (fun _ _ h => h) (fun _ h => h)) (fun h => by cases h) (by simp [maxLen, List.length_take]; omega) (by simp [List.length_take]; omega) ?_
      intro s7 w7 hn7 hf7 _
      have Hn7 := hide (show NewL w6 w7 3 1 vcE s7 (l.take i) from by simpa using hn7)
      have Hf7 := hide hf7
      clear hn7 hf7
      obtain ⟨s7a, s7l, s7c⟩ := s7
      simp only [Act.put, List.setIfInBounds_toArray, List.set_cons_succ, List.set_cons_zero]
      iterate 7 (first | (refine wpMix_skip rfl ?_; simp only [Act.put, List.setIfInBounds_toArray, List.set_cons_succ, List.set_cons_zero]) | (refine wpMix_calm rfl rfl (fun K hK => ?_); go_big_quiet_op; refine hK _ ?_; clear hK K))
      refine wpMix_append_new (w0 := w6) (N := 1) (cells := vcE) (xs := l.take i) (s := ⟨s7a, s7l, s7c⟩) (q := ⟨_, _, _⟩) (ys := l.drop (i + 1)) (ok := fun _ => True) rfl (.tmp 42) (.tmp 49) 48 rfl Try.underlying48 _ 8 int_info (by kernel_rfl) (by decide) vcE_length vcE_mem rfl Hn7.out Hf7.out rfl (by first | exact own_dropO vcE_length (Hov6.out.fr Hf7.out (fun _ _ h => h)) _ _ _ (by have := Hvl.out; omega) (by have := Hvl.out; omega) (by omega) | exact own_endG _ _ _ _ (by have := Hvl.out; omega) (by have := Hvl.out; omega)) (fun h => by cases h) (by have := Hvl.out; simp [maxLen, List.length_take, List.length_drop]; omega) (by have := Hvl.out; simp [List.length_take, List.length_drop]; omega) ?_
      intro s8 w8 hn8 hf8 _
      have Hn8 := hide hn8; have Hf8 := hide hf8
      clear hn8 hf8
      obtain ⟨s8a, s8l, s8c⟩ := s8
      simp only [Act.put, List.setIfInBounds_toArray, List.set_cons_succ, List.set_cons_zero]
      repeat (first | (refine wpMix_skip rfl ?_; simp only [Act.put, List.setIfInBounds_toArray, List.set_cons_succ, List.set_cons_zero]) | (refine wpMix_calm rfl rfl (fun K hK => ?_); go_big_quiet_op; refine hK _ ?_; clear hK K))
      refine wpMix_nil ?_
      have Hblk8 := hide (Hb6.out.fr Hf8.out (fun h => h))
      have c8 := Hblk8.out.cell 1
      simp only [List.getElem?_toArray, List.getElem?_cons_succ, List.getElem?_cons_zero] at c8
      have z8 : w8.frozen? ⟨g, 1, none⟩ = false := Hblk8.out.free 1
      have hg8 : g < w8.heap.size := Hf8.out.lt hgw6
      clear hg6
      go_wp2_with fail
      have Hblk9 := hide (Hblk8.out.set 1 (.slice s8a s8l s8c))
      have Hf9 := hide (show Fr (oneB g) w8 (w8.setCell ⟨g, 1, none⟩ (.slice s8a s8l s8c)) from (Fr.refl (oneB g) _).setCell (p := ⟨g, 1, none⟩) (.inr rfl) _)
      generalize w8.setCell ⟨g, 1, none⟩ (.slice s8a s8l s8c) = w9 at *
      clear c8 z8 hg8
      go_ret
      unfold DocTo
      rw [HA.out, Hh.out]
      have h56 : w3.heap.size ≤ w6.heap.size := Nat.le_trans Hf5.out.size Hf6.out.size
      have hone : ∀ b, w.heap.size ≤ b ∨ ¬ oneB g b ∨ F b := fun b => by
        by_cases e : oneB g b
        · exact .inr (.inr (by unfold oneB at e; subst e; exact H.out.here))
        · exact .inr (.inl e)
      have hF5 : Fr F w w5 := (Hf3.out.tr Hf5.out).mono (fun _ _ h => h.elim)
      have hF6 : Fr F w w6 := hF5.trans Hf6.out (fun _ _ h => h) (fun b _ e => by unfold oneB at e; subst e; exact H.out.here)
      have hF8 : Fr F w w8 := hF6.trans Hf8.out (fun _ _ h => h) (fun _ _ h => h.elim)
      have hFR : Fr F w w9 := hF8.trans Hf9.out (fun _ _ h => h) (fun b _ e => by unfold oneB at e; subst e; exact H.out.here)
      have hblk9 : Blk w9 g (.slice s5a s5l s5c :: .slice s8a s8l s8c :: rest).toArray ty := by have := Hblk9.out; simpa using this
      have hn9 : NewL w3 w9 28 2 pcE ⟨s5a, s5l, s5c⟩ (l.take i ++ l.drop (i + 1)) := (Hn6.out.fr Hf8.out).frS Hf9.out (fun b hb => hnot b (Hn5.out.2 b hb))
      have hm9 : OwnV w9 ⟨s8a, s8l, s8c⟩ (l.take i ++ l.drop (i + 1)) := Hn8.out.1.fr Hf9.out (fun b hb => hnot b (Nat.le_trans h56 (Hn8.out.2 b hb)))
      have hsz := Hf3.out.size
      exact ⟨rfl, doc_blk H.out hblk9 hn9.1 hm9 hFR (fun b hb => .inr (by have := Hn5.out.2 b hb; omega)) (fun b hb => .inr (by have := Hn8.out.2 b hb; omega)) (by have := H.out.len; simp [List.length_take, List.length_drop]; omega), hFR⟩
end Go.Proofs.Ytgjabgneapdbiaa
