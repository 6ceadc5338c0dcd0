/- flows.Find. -/
import Derived.Test.YtjfjpibjjliagaaFlowBase
import Derived.Deep.DeepCutAuto
namespace Go.Proofs.Ytjfjpibjjliagaa
open Go.RowKit Go.BigFrame
set_option linter.unusedSimpArgs false
set_option linter.unusedVariables false
attribute [local irreducible] wpMix

abbrev InGrow (w : World) (w' : World) : Prop := ∃ z : Grow w, w' = z.v
theorem inGrow {w w' : World} (h : Fr noB w w') : InGrow w w' := ⟨⟨w', h⟩, rfl⟩
theorem grow_fr {w w' : World} (h : InGrow w w') : Fr noB w w' := by obtain ⟨z, rfl⟩ := h; exact z.fr

def foundV (x : FoundF) : Value := .tuple #[.agg x.f.cells.toArray, .bool x.back, .bool x.ok]

set_option maxHeartbeats 400000 in
theorem flows_find_nil (k : KeyM) (w : World) : Calls Try.prog 19 #[.pointer none, .agg k.cells.toArray] w fun e w' => e = .returned (foundV ⟨zeroF, false, false⟩) ∧ Fr noB w w' := by
  go_enter Try.func19, Try.ntmps19
  go_upto_region 2 with (fail)
  refine wp_gen (fun W => Blk W (w.heap.size + 1) zeroF.cells.toArray 29 ∧ Fr noB w W) ⟨?_, ((Fr.refl _ _).alloc _).alloc _⟩ ?_
  · have h := Blk.alloc_new (w.alloc (.cells k.cells.toArray 25)) zeroF.cells.toArray 29
    rw [World.size_alloc] at h
    exact h
  rintro w1 ⟨hb, hf⟩
  have HB := hide hb; have Hf := hide hf
  clear hb hf
  go_wp2_with (refine wpList_store_row rfl 29 (.tmp 4) (.tmp 13) rfl _ zeroF.cells.toArray rfl rfl _ _ HB.out (by kernel_rfl) rfl (FlowM.onea _) ?_)
  exact bodyPost_ret (v := foundV ⟨zeroF, false, false⟩) (results_ftt Try.results19 _ _ _ 0 zeroF.cells _ rfl (Blk.cells (HB.out.setRow)) Try.underlying29 rfl (by kernel_rfl) _ _ rfl rfl) rfl ⟨rfl, Hf.out.setRow (.inl (by omega)) _⟩

theorem own_at {α : Type} {w : World} {e : TypeId} {N : Nat} {cells : α → List Value} {s : SlV} {xs : List α} (h : OwnL w e N cells s xs) (hN : ∀ x, (cells x).length = N) {k : Nat} {x : α} (hx : xs[k]? = some x) :
    ∃ g, s.a = some ⟨g, 0, none⟩ ∧ k < s.len ∧ CellsAt w g (k * N) (cells x) ∧ ∃ junk, Blk w g (xs.flatMap cells ++ junk).toArray e := by
  obtain ⟨h1, h2⟩ := h
  have hk := (List.getElem?_eq_some_iff.1 hx).1
  rcases h2 with rfl | ⟨g, junk, ha, hb, _, _, _⟩
  · simp only at h1; omega
  · refine ⟨g, ha, by omega, fun j v hv => ?_, junk, hb⟩
    have hj : j < N := by rw [← hN x]; exact (List.getElem?_eq_some_iff.1 hv).1
    rw [hb.cell, List.getElem?_toArray, flat_get hN junk xs k x j hx hj, hv]

set_option maxHeartbeats 1000000 in
theorem flows_find (w : World) (F : Nat → Prop) (g : Nat) (fl : List FlowM) (most : Int) (h : Tab w F g fl most) (k : KeyM) :
    Calls Try.prog 19 #[.pointer (some ⟨g, 0, none⟩), .agg k.cells.toArray] w fun e w' => e = .returned (foundV (findF fl k)) ∧ Fr noB w w' := by
  have hlen : fl.length ≤ 64 := by have := h.len; have := h.most64; omega
  obtain ⟨⟨⟨sa, sl, sc⟩, mb, n, hblk, hown, hkm, hF1, hF2⟩, hF0, hlt, _, _, _, _, hwf⟩ := h
  have hsl : sl = fl.length := hown.1
  go_enter Try.func19, Try.ntmps19
  go_upto_region 3 with (fail)
  refine wp_gen (fun W => CellsAt W w.heap.size 0 k.cells ∧ Blk W (w.heap.size + 1) zeroF.cells.toArray 29 ∧ Fr noB w W) ⟨?_, ?_, ((Fr.refl _ _).alloc _).alloc _⟩ ?_
  · (repeat (first | assumption | exact cells_new _ _ _ (by simp) | refine CellsAt.alloc ?_ _ | refine CellsAt.drew ?_ | refine CellsAt.drewN ?_ _))
  · have h := Blk.alloc_new (w.alloc (.cells k.cells.toArray 25)) zeroF.cells.toArray 29
    rw [World.size_alloc] at h
    exact h
  rintro w1 ⟨hck, hb, hf⟩
  have HB := hide hb; have Hf := hide hf
  have hown1 := hown.fr hf (fun _ _ h => h)
  have hkm1 := hkm.fr hf (fun h => h)
  have hblk1 := hblk.fr hf (fun h => h)
  have hg1 : ∀ z : Grow w1, z.v.cell? ⟨g, 1, none⟩ = some (.map (some mb)) := fun z => (hblk1.fr z.fr (fun h => h)).cell 1
  have hmz : ∀ W, (∃ z : Grow w1, W = z.v) → KMap KeyM.cells W mb n (fidx fl) := fun W ⟨z, hz⟩ => by subst hz; exact hkm1.fr z.fr (fun h => h)
  have HMZ := hide hmz; have Hown := hide hown1; have Hblk := hide hblk1; have Hsl := hide hsl
  clear hown hkm hblk hown1 hkm1 hblk1 hmz hb hf hsl hF2
  refine wp_region_mix (fun W => ∃ z : Grow w1, W = z.v) (by kernel_rfl) (by kernel_rfl) (inGrow (Fr.refl _ _).drew) ?_
  iterate 4 (first | (refine wpMix_skip rfl ?_; simp only [Act.put, List.setIfInBounds_toArray, List.set_cons_succ, List.set_cons_zero]) | (refine wpMix_calm rfl rfl (fun K hK => ?_); go_big_quiet_op; refine hK _ ?_; clear hK K))
  (refine wpMix_load_atw rfl 25 (.tmp 3) rfl _ _ rfl (KeyM.cells _) (fun W hW => by obtain ⟨z, rfl⟩ := hW; exact CellsAt.fr (by (repeat (first | assumption | exact cells_new _ _ _ (by simp) | refine CellsAt.alloc ?_ _ | refine CellsAt.drew ?_ | refine CellsAt.drewN ?_ _))) z.fr (fun h => h)) _ Try.underlying25 rfl (by kernel_rfl) ?_; simp only [Act.put, List.setIfInBounds_toArray, List.set_cons_succ, List.set_cons_zero])
  cases hi : fl.findIdx? (fun f => decide (f.key = k)) with
  | some i =>
    obtain ⟨e1, f, hx, e2, e3⟩ := fidx_some hi
    have E1 := hide e1; have Hi := hide hi; have E2 := hide e2; have Hx := hide hx
    clear e1 hi e2 hx
    refine wpMix_klookup rfl (.tmp 18) (.tmp 19) true rfl key_fit Try.underlying56 (by kernel_rfl) k rfl rfl HMZ.out (.tuple #[.int .i64 i, .bool true]) (by rw [E1.out]; rfl) ?_
    simp only [Act.put, List.setIfInBounds_toArray, List.set_cons_succ, List.set_cons_zero]
    repeat (first | (refine wpMix_skip rfl ?_; simp only [Act.put, List.setIfInBounds_toArray, List.set_cons_succ, List.set_cons_zero]) | (refine wpMix_calm rfl rfl (fun K hK => ?_); go_big_quiet_op; refine hK _ ?_; clear hK K))
    refine wpMix_nil ?_
    obtain ⟨gs, rfl, hil, hcf, _⟩ : ∃ gs, sa = some ⟨gs, 0, none⟩ ∧ i < sl ∧ CellsAt w1.drew gs (i * 14) f.cells ∧ True := by
      obtain ⟨gs, h1, h2, h3, _⟩ := own_at Hown.out FlowM.length Hx.out
      exact ⟨gs, h1, h2, h3, trivial⟩
    have hmul : ((i : Int) * 14).toNat = i * 14 := by omega
    have c0 : w1.drew.cell? ⟨g, 0, none⟩ = some (.slice (some ⟨gs, 0, none⟩) sl sc) := Hblk.out.cell 0
    have hmax : sl ≤ 64 := by rw [Hsl.out]; exact hlen
    clear hlen
    have HBd : Hid (Blk w1.drew (w.heap.size + 1) zeroF.cells.toArray 29) := HB
    go_wp2_with (first | (refine wpList_load_at rfl 29 _ rfl _ _ rfl (FlowM.cells _) (by (repeat (first | assumption | exact cells_new _ _ _ (by simp) | refine CellsAt.alloc ?_ _ | refine CellsAt.drew ?_ | refine CellsAt.drewN ?_ _))) _ Try.underlying29 rfl (by kernel_rfl) ?_) | (refine wpList_store_row rfl 29 (.tmp 4) (.tmp 30) rfl _ f.cells.toArray rfl rfl _ _ HBd.out (by kernel_rfl) rfl (FlowM.onea _) ?_))
    have hF : findF fl k = ⟨f, false, true⟩ := by unfold findF; rw [Hi.out]; simp only; rw [E2.out]
    rw [hF]
    exact bodyPost_ret (v := foundV ⟨f, false, true⟩) (results_ftt Try.results19 _ _ _ 0 f.cells _ rfl (Blk.cells (HBd.out.setRow)) Try.underlying29 rfl (by kernel_rfl) _ _ rfl rfl) rfl ⟨rfl, Hf.out.drew.setRow (.inl (by omega)) _⟩
  | none =>
    have E1 := hide (fidx_none hi); have Hi := hide hi
    clear hi
    refine wpMix_klookup rfl (.tmp 18) (.tmp 19) true rfl key_fit Try.underlying56 (by kernel_rfl) k rfl rfl HMZ.out (.tuple #[.int .i64 0, .bool false]) (by rw [E1.out]; rfl) ?_
    simp only [Act.put, List.setIfInBounds_toArray, List.set_cons_succ, List.set_cons_zero]
    repeat (first | (refine wpMix_skip rfl ?_; simp only [Act.put, List.setIfInBounds_toArray, List.set_cons_succ, List.set_cons_zero]) | (refine wpMix_calm rfl rfl (fun K hK => ?_); go_big_quiet_op; refine hK _ ?_; clear hK K))
    refine wpMix_nil ?_
    go_upto_region 6 with (fail)
    have hck2 : CellsAt w1.drew w.heap.size 0 k.cells := hck
    refine wp_region_mix (fun W => ∃ z : Grow w1, W = z.v) (by kernel_rfl) (by kernel_rfl) (inGrow (Fr.refl _ _).drew.drew) ?_
    iterate 4 (first | (refine wpMix_skip rfl ?_; simp only [Act.put, List.setIfInBounds_toArray, List.set_cons_succ, List.set_cons_zero]) | (refine wpMix_calm rfl rfl (fun K hK => ?_); go_big_quiet_op; refine hK _ ?_; clear hK K))
    (refine wpMix_load_atw rfl 25 (.tmp 3) rfl _ _ rfl (KeyM.cells _) (fun W hW => by obtain ⟨z, rfl⟩ := hW; exact CellsAt.fr (by (repeat (first | assumption | exact cells_new _ _ _ (by simp) | refine CellsAt.alloc ?_ _ | refine CellsAt.drew ?_ | refine CellsAt.drewN ?_ _))) z.fr (fun h => h)) _ Try.underlying25 rfl (by kernel_rfl) ?_; simp only [Act.put, List.setIfInBounds_toArray, List.set_cons_succ, List.set_cons_zero])
    refine wpMix_spine rfl rfl (fun K hK => ?_); go_wp2_with fail
    refine (pack_turn k _).mono ?_
    rintro e w2 ⟨rfl, hf2⟩
    have hf2 : Fr noB w1 w2 := (Fr.refl _ _).drew.drew.tr hf2
    have Hf2 := hide hf2
    refine hK _ _ rfl (inGrow hf2) ?_
    clear hK K hf2
    cases hi : fl.findIdx? (fun f => decide (f.key = turnK k)) with
    | some i =>
      obtain ⟨e1, f, hx, e2, e3⟩ := fidx_some hi
      have E1' := hide e1; have Hi2 := hide hi; have E2 := hide e2; have Hx := hide hx
      clear e1 hi e2 hx
      refine wpMix_klookup rfl (.tmp 35) (.tmp 37) true rfl key_fit Try.underlying56 (by kernel_rfl) (turnK k) rfl rfl HMZ.out (.tuple #[.int .i64 i, .bool true]) (by rw [E1'.out]; rfl) ?_
      simp only [Act.put, List.setIfInBounds_toArray, List.set_cons_succ, List.set_cons_zero]
      repeat (first | (refine wpMix_skip rfl ?_; simp only [Act.put, List.setIfInBounds_toArray, List.set_cons_succ, List.set_cons_zero]) | (refine wpMix_calm rfl rfl (fun K hK => ?_); go_big_quiet_op; refine hK _ ?_; clear hK K))
      refine wpMix_nil ?_
      obtain ⟨gs, rfl, hil, hcf, _⟩ : ∃ gs, sa = some ⟨gs, 0, none⟩ ∧ i < sl ∧ CellsAt w2 gs (i * 14) f.cells ∧ True := by
        obtain ⟨gs, h1, h2, h3, _⟩ := own_at Hown.out FlowM.length Hx.out
        exact ⟨gs, h1, h2, h3.fr Hf2.out (fun h => h), trivial⟩
      have hmul : ((i : Int) * 14).toNat = i * 14 := by omega
      have c0 : w2.cell? ⟨g, 0, none⟩ = some (.slice (some ⟨gs, 0, none⟩) sl sc) := (Hblk.out.fr Hf2.out (fun h => h)).cell 0
      have hmax : sl ≤ 64 := by rw [Hsl.out]; exact hlen
      clear hlen
      have HBd := hide (HB.out.fr Hf2.out (fun h => h))
      go_wp2_with (first | (refine wpList_load_at rfl 29 _ rfl _ _ rfl (FlowM.cells _) (by (repeat (first | assumption | exact cells_new _ _ _ (by simp) | refine CellsAt.alloc ?_ _ | refine CellsAt.drew ?_ | refine CellsAt.drewN ?_ _))) _ Try.underlying29 rfl (by kernel_rfl) ?_) | (refine wpList_store_row rfl 29 (.tmp 4) (.tmp 48) rfl _ f.cells.toArray rfl rfl _ _ HBd.out (by kernel_rfl) rfl (FlowM.onea _) ?_))
      have hF : findF fl k = ⟨f, true, true⟩ := by unfold findF; rw [Hi.out]; simp only; rw [Hi2.out]; simp only; rw [E2.out]
      rw [hF]
      exact bodyPost_ret (v := foundV ⟨f, true, true⟩) (results_ftt Try.results19 _ _ _ 0 f.cells _ rfl (Blk.cells (HBd.out.setRow)) Try.underlying29 rfl (by kernel_rfl) _ _ rfl rfl) rfl ⟨rfl, (Hf.out.tr Hf2.out).setRow (.inl (by omega)) _⟩
    | none =>
      have E1' := hide (fidx_none hi); have Hi2 := hide hi
      clear hi
      refine wpMix_klookup rfl (.tmp 35) (.tmp 37) true rfl key_fit Try.underlying56 (by kernel_rfl) (turnK k) rfl rfl HMZ.out (.tuple #[.int .i64 0, .bool false]) (by rw [E1'.out]; rfl) ?_
      simp only [Act.put, List.setIfInBounds_toArray, List.set_cons_succ, List.set_cons_zero]
      repeat (first | (refine wpMix_skip rfl ?_; simp only [Act.put, List.setIfInBounds_toArray, List.set_cons_succ, List.set_cons_zero]) | (refine wpMix_calm rfl rfl (fun K hK => ?_); go_big_quiet_op; refine hK _ ?_; clear hK K))
      refine wpMix_nil ?_
      have HBd := hide (HB.out.fr Hf2.out (fun h => h))
      go_wp2_with (refine wpList_store_row rfl 29 (.tmp 4) (.tmp 49) rfl _ zeroF.cells.toArray rfl rfl _ _ HBd.out (by kernel_rfl) rfl (FlowM.onea _) ?_)
      have hF : findF fl k = ⟨zeroF, false, false⟩ := by unfold findF; rw [Hi.out]; simp only; rw [Hi2.out]
      rw [hF]
      exact bodyPost_ret (v := foundV ⟨zeroF, false, false⟩) (results_ftt Try.results19 _ _ _ 0 zeroF.cells _ rfl (Blk.cells (HBd.out.setRow)) Try.underlying29 rfl (by kernel_rfl) _ _ rfl rfl) rfl ⟨rfl, (Hf.out.tr Hf2.out).setRow (.inl (by omega)) _⟩
end Go.Proofs.Ytjfjpibjjliagaa
