/- The document's answer to chapter 17: Find, Put, Add. -/
import Derived.Test.YtjfjpibjjliagaaFlowDoc
namespace Go.Proofs.Ytjfjpibjjliagaa
open Go.RowKit Go.BigFrame
set_option linter.unusedSimpArgs false
set_option linter.unusedVariables false
attribute [local irreducible] wpMix

theorem docIdx_some {fl : List FlowM} {k : KeyM} {i : Nat} (h : fl.findIdx? (fun f => decide (f.key = k)) = some i) : docIdx fl k = (i : Int) := by unfold docIdx; rw [h]
theorem docIdx_none {fl : List FlowM} {k : KeyM} (h : fl.findIdx? (fun f => decide (f.key = k)) = none) : docIdx fl k = -1 := by unfold docIdx; rw [h]

set_option maxHeartbeats 1000000 in
theorem doc_find (w : World) (F : Nat → Prop) (g : Nat) (fl : List FlowM) (most : Int) (h : Doc w F g fl most) (k : KeyM) :
    Calls Try.prog 25 #[.pointer (some ⟨g, 0, none⟩), .agg k.cells.toArray] w fun e w' => e = .returned (foundV (findF fl k)) ∧ Fr noB w w' := by
  have H := hide h
  have hlen : fl.length ≤ 64 := by have := h.len; have := h.most64; omega
  clear h
  go_enter Try.func25, Try.ntmps25
  go_upto_region 1 with (fail)
  refine wp_gen (fun W => CellsAt W w.heap.size 0 k.cells ∧ Blk W (w.heap.size + 1) zeroF.cells.toArray 29 ∧ Fr noB w W) ⟨?_, ?_, ((Fr.refl _ _).alloc _).alloc _⟩ ?_
  · (repeat (first | assumption | exact cells_new _ _ _ (by simp) | refine CellsAt.alloc ?_ _ | refine CellsAt.drew ?_ | refine CellsAt.drewN ?_ _))
  · have h := Blk.alloc_new (w.alloc (.cells k.cells.toArray 25)) zeroF.cells.toArray 29
    rw [World.size_alloc] at h
    exact h
  rintro w1 ⟨hck, hb, hf⟩
  have HB := hide hb; have Hf := hide hf; have Hck := hide hck
  clear hb hf
  go_wp2_with (refine wpList_load_at rfl 25 _ rfl _ _ rfl (KeyM.cells _) (by (repeat (first | assumption | exact cells_new _ _ _ (by simp) | refine CellsAt.alloc ?_ _ | refine CellsAt.drew ?_ | refine CellsAt.drewN ?_ _))) _ Try.underlying25 rfl (by kernel_rfl) ?_)
  refine (doc_at _ F g fl most (H.out.frN Hf.out) k).mono ?_
  rintro e w2 ⟨rfl, hf2⟩
  have Hf2 := hide (Hf.out.tr hf2); have HB2 := hide (HB.out.fr hf2 (fun h => h)); have Hck2 := hide (Hck.out.fr hf2 (fun h => h))
  clear hf2 hck
  cases hi : fl.findIdx? (fun f => decide (f.key = k)) with
  | some i =>
    obtain ⟨_, f, hx, e2, e3⟩ := fidx_some hi
    rw [docIdx_some hi]
    have HE := hide (show findF fl k = ⟨f, false, true⟩ from by unfold findF; rw [hi]; simp only; rw [e2])
    obtain ⟨⟨⟨sa, sl, sc⟩, hblk, hown, hF2⟩, _⟩ := H.out.frN Hf2.out
    have hsl : sl = fl.length := hown.1
    obtain ⟨gs, rfl, hil, hcx, _⟩ := own_at hown FlowM.length hx
    have hil : i < sl := hil
    have c0 : w2.cell? ⟨g, 0, none⟩ = some (.slice (some ⟨gs, 0, none⟩) sl sc) := hblk.cell 0
    have hmul : ((i : Int) * 14).toNat = i * 14 := by omega
    have hmax : sl ≤ 64 := by rw [hsl]; exact hlen
    have HX := hide hcx
    have hcx2 : CellsAt w2 gs (i * 14) f.cells := HX.out
    clear hi hx e2 e3 hsl hown hblk hcx hlen
    go_wp2_with (first | (refine wpList_load_at rfl 29 _ rfl _ _ rfl (FlowM.cells _) (by (repeat (first | assumption | exact cells_new _ _ _ (by simp) | refine CellsAt.alloc ?_ _ | refine CellsAt.drew ?_ | refine CellsAt.drewN ?_ _))) _ Try.underlying29 rfl (by kernel_rfl) ?_) | (refine wpList_store_row rfl 29 (.tmp 4) (.tmp 19) rfl _ f.cells.toArray rfl rfl _ _ HB2.out (by kernel_rfl) rfl (FlowM.onea _) ?_))
    rw [HE.out]
    exact bodyPost_ret (v := foundV ⟨f, false, true⟩) (results_ftt Try.results25 _ _ _ 0 f.cells _ rfl (Blk.cells (HB2.out.setRow)) Try.underlying29 rfl (by kernel_rfl) _ _ rfl rfl) rfl ⟨rfl, Hf2.out.setRow (.inl (by omega)) _⟩
  | none =>
    rw [docIdx_none hi]
    have Hi := hide hi
    have hck2 := Hck2.out
    clear hi
    go_wp2_with (refine wpList_load_at rfl 25 _ rfl _ _ rfl (KeyM.cells _) (by (repeat (first | assumption | exact cells_new _ _ _ (by simp) | refine CellsAt.alloc ?_ _ | refine CellsAt.drew ?_ | refine CellsAt.drewN ?_ _))) _ Try.underlying25 rfl (by kernel_rfl) ?_)
    refine (ref8_turn k _).mono ?_
    rintro e w3 ⟨rfl, hf3⟩
    have Hf3 := hide (Hf2.out.tr hf3); have HB3 := hide (HB2.out.fr hf3 (fun h => h))
    clear hf3 hck2
    go_wp2_with fail
    refine (doc_at _ F g fl most (H.out.frN Hf3.out) (turnK k)).mono ?_
    rintro e w4 ⟨rfl, hf4⟩
    have Hf4 := hide (Hf3.out.tr hf4); have HB4 := hide (HB3.out.fr hf4 (fun h => h))
    clear hf4
    cases hi : fl.findIdx? (fun f => decide (f.key = turnK k)) with
    | some i =>
      obtain ⟨_, f, hx, e2, e3⟩ := fidx_some hi
      rw [docIdx_some hi]
      have HE := hide (show findF fl k = ⟨f, true, true⟩ from by unfold findF; rw [Hi.out]; simp only; rw [hi]; simp only; rw [e2])
      obtain ⟨⟨⟨sa, sl, sc⟩, hblk, hown, hF2⟩, _⟩ := H.out.frN Hf4.out
      have hsl : sl = fl.length := hown.1
      obtain ⟨gs, rfl, hil, hcx, _⟩ := own_at hown FlowM.length hx
      have hil : i < sl := hil
      have c0 : w4.cell? ⟨g, 0, none⟩ = some (.slice (some ⟨gs, 0, none⟩) sl sc) := hblk.cell 0
      have hmul : ((i : Int) * 14).toNat = i * 14 := by omega
      have hmax : sl ≤ 64 := by rw [hsl]; exact hlen
      have HX := hide hcx
      have hcx2 : CellsAt w4 gs (i * 14) f.cells := HX.out
      clear hi hx e2 e3 hsl hown hblk hcx hlen
      go_wp2_with (first | (refine wpList_load_at rfl 29 _ rfl _ _ rfl (FlowM.cells _) (by (repeat (first | assumption | exact cells_new _ _ _ (by simp) | refine CellsAt.alloc ?_ _ | refine CellsAt.drew ?_ | refine CellsAt.drewN ?_ _))) _ Try.underlying29 rfl (by kernel_rfl) ?_) | (refine wpList_store_row rfl 29 (.tmp 4) (.tmp 32) rfl _ f.cells.toArray rfl rfl _ _ HB4.out (by kernel_rfl) rfl (FlowM.onea _) ?_))
      rw [HE.out]
      exact bodyPost_ret (v := foundV ⟨f, true, true⟩) (results_ftt Try.results25 _ _ _ 0 f.cells _ rfl (Blk.cells (HB4.out.setRow)) Try.underlying29 rfl (by kernel_rfl) _ _ rfl rfl) rfl ⟨rfl, Hf4.out.setRow (.inl (by omega)) _⟩
    | none =>
      rw [docIdx_none hi]
      have HE := hide (show findF fl k = ⟨zeroF, false, false⟩ from by unfold findF; rw [Hi.out]; simp only; rw [hi])
      clear hi
      go_wp2_with (refine wpList_store_row rfl 29 (.tmp 4) (.tmp 33) rfl _ zeroF.cells.toArray rfl rfl _ _ HB4.out (by kernel_rfl) rfl (FlowM.onea _) ?_)
      rw [HE.out]
      exact bodyPost_ret (v := foundV ⟨zeroF, false, false⟩) (results_ftt Try.results25 _ _ _ 0 zeroF.cells _ rfl (Blk.cells (HB4.out.setRow)) Try.underlying29 rfl (by kernel_rfl) _ _ rfl rfl) rfl ⟨rfl, Hf4.out.setRow (.inl (by omega)) _⟩

set_option maxHeartbeats 1000000 in
theorem doc_put (w : World) (F : Nat → Prop) (g : Nat) (fl : List FlowM) (most : Int) (h : Doc w F g fl most) (f : FlowM) (hwf : f.wf) :
    Calls Try.prog 23 #[.pointer (some ⟨g, 0, none⟩), .agg f.cells.toArray] w (DocTo w F g (putF fl f).l most (.bool (putF fl f).ok)) := by
  have H := hide h
  have hgl := h.lt g h.here
  have hlen : fl.length ≤ 64 := by have := h.len; have := h.most64; omega
  clear h
  go_enter Try.func23, Try.ntmps23
  go_upto_region 1 with (fail)
  refine wp_gen (fun W => CellsAt W w.heap.size 0 f.cells ∧ Fr noB w W ∧ W.heap.size = w.heap.size + 1) ⟨by (repeat (first | assumption | exact cells_new _ _ _ (by simp) | refine CellsAt.alloc ?_ _ | refine CellsAt.drew ?_ | refine CellsAt.drewN ?_ _)), (Fr.refl _ _).alloc _, by simp⟩ ?_
  rintro w1 ⟨hcf, hf, hw1⟩
  have Hf := hide hf; have Hcf := hide hcf; have hck := key_of_flow hcf
  clear hf hcf
  go_wp2_with (refine wpList_load_at rfl 25 _ rfl _ _ rfl (KeyM.cells _) (by (repeat (first | assumption | exact cells_new _ _ _ (by simp) | refine CellsAt.alloc ?_ _ | refine CellsAt.drew ?_ | refine CellsAt.drewN ?_ _))) _ Try.underlying25 rfl (by kernel_rfl) ?_)
  refine (doc_at _ F g fl most (H.out.frN Hf.out) f.key).mono ?_
  rintro e w2 ⟨rfl, hf2⟩
  have Hf2 := hide (Hf.out.tr hf2); have Hcf2 := hide (Hcf.out.fr hf2 (fun h => h))
  have hw2 : w.heap.size < w2.heap.size := by have := hf2.size; omega
  clear hf2 hck
  cases hi : fl.findIdx? (fun x => decide (x.key = f.key)) with
  | none =>
    rw [docIdx_none hi]
    have HP := hide (show putF fl f = ⟨false, fl⟩ from by unfold putF; rw [hi])
    clear hi
    go_wp2_with fail
    go_ret
    unfold DocTo
    rw [HP.out]
    exact ⟨rfl, H.out.same Hf2.out⟩
  | some i =>
    obtain ⟨_, x, hx, e2, e3⟩ := fidx_some hi
    rw [docIdx_some hi]
    have HP := hide (show putF fl f = ⟨true, fl.set i f⟩ from by unfold putF; rw [hi])
    have Hx := hide hx; have E3 := hide e3
    clear hi hx e2 e3
    obtain ⟨⟨⟨sa, sl, sc⟩, hblk, hown, hF2⟩, hF0, hlt, hle, hm0, hm64, hwfs⟩ := H.out.frN Hf2.out
    have hsl : sl = fl.length := hown.1
    have hil : i < sl := by have := (List.getElem?_eq_some_iff.1 Hx.out).1; omega
    have c0 : w2.cell? ⟨g, 0, none⟩ = some (.slice sa sl sc) := hblk.cell 0
    have z0 : w2.frozen? ⟨g, 0, none⟩ = false := hblk.free 0
    have hg2 : g < w2.heap.size := by omega
    have hmax : sl ≤ 64 := by rw [hsl]; exact hlen
    have Hq := hide (hown.slof FlowM.length hwfs)
    have Hnc := hide hown.nilcap
    have Hblk := hide hblk; have Hown := hide hown; have HF2 := hide hF2; have HF0 := hide hF0; have Hwfs := hide hwfs; have Hsl := hide hsl
    clear hblk hown hF2 hF0 hwfs hsl hlt
    go_upto_region 5 with (first | (refine wpList_build0 rfl 22 rfl Try.underlying22 (by kernel_rfl) ?_) | (refine wpList_append_new (w0 := w2) (N := 14) (cells := FlowM.cells) (xs := []) (s := ⟨some ⟨w2.heap.size, 0, none⟩, 0, 0⟩) (q := ⟨sa, sl, sc⟩) (ys := fl) (ok := FlowM.wf) rfl (.tmp 13) (.tmp 17) 22 rfl Try.underlying22 _ 120 flow_info (by kernel_rfl) (by decide) FlowM.length FlowM.mem rfl (NewL.zero _ _ (Fr.refl _ _) _ _ _) ((Fr.refl _ _).alloc _) rfl (SlOf.fr Hq.out ((Fr.refl noB _).alloc _) (fun _ _ h => h) (fun _ h => h)) (fun h => by have := Hnc.out h; simp only [SlV.mk.injEq] at this; exact this.2.2) (by simp [maxLen]; omega) (by simp; omega) ?_; intro s1 v1 hn1 hf1 _; have HN1 := hide hn1; have HF1 := hide hf1; have c0' : v1.cell? ⟨g, 0, none⟩ = some (.slice sa sl sc) := (Hblk.out.fr hf1 (fun h => h)).cell 0; have z0' : v1.frozen? ⟨g, 0, none⟩ = false := (Hblk.out.fr hf1 (fun h => h)).free 0; clear hn1 hf1))
    refine wp_gen (fun W => Blk W g #[.slice s1.a s1.len s1.cap, .int .i64 most] 54 ∧ Fr (oneB g) v1 W) ⟨(Hblk.out.fr HF1.out (fun h => h)).set 0 _, (Fr.refl (oneB g) _).setCell (p := ⟨g, 0, none⟩) (.inr rfl) _⟩ ?_
    rintro w3 ⟨hb3, hf3⟩
    have hN0 : NewL w2 v1 29 14 FlowM.cells s1 fl := by simpa using HN1.out
    have nb := blk_ne_own (Hblk.out.fr HF1.out (fun h => h)) hN0.1 (by decide)
    have hN3 := hN0.frS hf3 (fun b hb e => by unfold oneB at e; subst e; exact nb hb)
    have hF3 : Fr F w w3 := Fr.trans (Hf2.out.tr HF1.out) hf3 (fun _ _ h => h.elim) (fun b _ hb => by unfold oneB at hb; subst hb; exact HF0.out)
    have Hnew := hide hN0.2
    have hcf3 : CellsAt w3 w.heap.size 0 f.cells := (Hcf2.out.fr HF1.out (fun h => h)).fr hf3 (fun e => by unfold oneB at e; omega)
    have hg0 : ∀ z : Grow w3, z.v.cell? ⟨g, 0, none⟩ = some (.slice s1.a s1.len s1.cap) := fun z => (hb3.fr z.fr (fun h => h)).cell 0
    obtain ⟨gs, hgs, hil3, hcx, junk, hbs⟩ := own_at hN3.1 FlowM.length Hx.out
    have HN3 := hide hN3; have HF3 := hide hF3; have HB3 := hide hb3; have Nb := hide nb
    have hs1 : s1.len = fl.length := hN3.1.1
    obtain ⟨s1a, s1l, s1c⟩ := s1
    simp only at hgs hs1 hil3 ⊢
    subst hgs
    have hmul : ((i : Int) * 14).toNat = i * 14 := by omega
    have hmax3 : s1l ≤ 64 := by omega
    have Hs1 := hide hs1
    clear hN0 nb hN3 hF3 hb3 hf3 hcx hbs HN1 c0 z0 hs1 hm0 hm64 hgl hw1
    refine wp_region_mixT 7 (fun W => ∃ z : Grow w3, W = z.v) (by kernel_rfl) (by kernel_rfl) (inGrow (Fr.refl _ _).drew) ?_
    simp only [List.take_succ_cons, List.take_zero, List.drop_succ_cons, List.drop_zero]
    iterate 5 (first | (refine wpMix_skip rfl ?_; simp only [Act.put, List.setIfInBounds_toArray, List.set_cons_succ, List.set_cons_zero]) | (refine wpMix_calm rfl rfl (fun K hK => ?_); go_big_quiet_op; refine hK _ ?_; clear hK K))
    (refine wpMix_load_atw rfl 29 (.tmp 3) rfl _ _ rfl (FlowM.cells _) (fun W hW => by obtain ⟨z, rfl⟩ := hW; exact CellsAt.fr (by (repeat (first | assumption | exact cells_new _ _ _ (by simp) | refine CellsAt.alloc ?_ _ | refine CellsAt.drew ?_ | refine CellsAt.drewN ?_ _))) z.fr (fun h => h)) _ Try.underlying29 rfl (by kernel_rfl) ?_; simp only [Act.put, List.setIfInBounds_toArray, List.set_cons_succ, List.set_cons_zero])
    repeat (first | (refine wpMix_skip rfl ?_; simp only [Act.put, List.setIfInBounds_toArray, List.set_cons_succ, List.set_cons_zero]) | (refine wpMix_calm rfl rfl (fun K hK => ?_); go_big_quiet_op; refine hK _ ?_; clear hK K))
    refine wpMix_nil ?_
    have hownd : OwnL w3.drew 29 14 FlowM.cells ⟨some ⟨gs, 0, none⟩, s1l, s1c⟩ fl := HN3.out.1
    refine wpList_store_elem rfl 29 (.tmp 27) (.tmp 26) rfl hownd FlowM.length rfl i (by have := Hs1.out; omega) f (by go_simp) rfl (by kernel_rfl) (FlowM.mem f) ?_
    intro w4 hown4 hf4 hsz4
    simp only [Act.put, List.setIfInBounds_toArray, List.set_cons_succ, List.set_cons_zero]
    have Hown4 := hide hown4
    have Hf4 := hide (show Fr (oneB gs) w3 w4 from ((Fr.refl (oneB gs) w3).drew).tr hf4)
    clear hownd hown4 hf4 hsz4 hcf3 hg0
    go_wp2_with fail
    go_ret
    unfold DocTo
    rw [HP.out]
    have hgn : w2.heap.size ≤ gs := Hnew.out gs ⟨_, rfl, rfl⟩
    have hgw : w.heap.size ≤ gs := by omega
    have hFR : Fr F w w4 := Fr.trans HF3.out Hf4.out (fun _ _ h => h) (fun b hb e => by unfold oneB at e; omega)
    refine ⟨rfl, ⟨⟨⟨some ⟨gs, 0, none⟩, s1l, s1c⟩, HB3.out.fr Hf4.out (fun e => Nb.out ⟨_, rfl, e.symm⟩), Hown4.out, fun b hb => ?_⟩, .inl HF0.out, fun b hb => ?_, ?_, H.out.most0, H.out.most64, ?_⟩, hFR⟩
    · exact .inr ⟨by have := Hnew.out b hb; omega, Hown4.out.lt b hb⟩
    · rcases hb with hb | hb
      · have := H.out.lt b hb; have := hFR.size; omega
      · exact hb.2
    · rw [List.length_set]; exact hle
    · intro y hy
      rcases List.mem_or_eq_of_mem_set hy with h | rfl
      · exact Hwfs.out y h
      · exact hwf
end Go.Proofs.Ytjfjpibjjliagaa
