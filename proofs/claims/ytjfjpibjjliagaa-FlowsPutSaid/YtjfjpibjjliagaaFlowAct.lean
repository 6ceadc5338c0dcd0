/- The helper act of chapter 17's laws: a step of both tables. -/
import Derived.Test.YtjfjpibjjliagaaFlowHelp2
namespace Go.Proofs.Ytjfjpibjjliagaa
open Go.RowKit Go.BigFrame
set_option linter.unusedSimpArgs false
set_option linter.unusedVariables false
attribute [local irreducible] wpMix wpAnyG

/-- Both tables hold the same flows, in blocks younger than wb. -/
def Both (wb w : World) (fl : List FlowM) (most : Int) (g gx : Nat) : Prop :=
  Fr noB wb w ∧ ∃ F G, Tab w F g fl most ∧ Doc w G gx fl most ∧ (∀ b, F b → ¬ G b) ∧ (∀ b, F b → wb.heap.size ≤ b) ∧ (∀ b, G b → wb.heap.size ≤ b)
theorem Both.frN {wb w w' : World} {fl : List FlowM} {most : Int} {g gx : Nat} (h : Both wb w fl most g gx) (hw : Fr noB w w') : Both wb w' fl most g gx := by
  obtain ⟨h1, F, G, h2, h3, h4, h5, h6⟩ := h
  exact ⟨h1.tr hw, F, G, h2.frN hw, h3.frN hw, h4, h5, h6⟩
/-- A step of the program's, then a step of the document's. -/
theorem both_step {wb w w1 w2 w3 : World} {fl fl' : List FlowM} {most : Int} {g gx : Nat} {F G : Nat → Prop} (h1 : Fr noB wb w) (h3 : Doc w G gx fl most) (h4 : ∀ b, F b → ¬ G b) (h5 : ∀ b, F b → wb.heap.size ≤ b) (h6 : ∀ b, G b → wb.heap.size ≤ b) (hlF : ∀ b, F b → b < w.heap.size)
    (t1 : Tab w1 (gr F w w1) g fl' most) (f1 : Fr F w w1) (f2 : Fr noB w1 w2) (d : Doc w2 G gx fl most → Doc w3 (gr G w2 w3) gx fl' most) (f3 : Fr G w2 w3) : Both wb w3 fl' most g gx := by
  have hG : ∀ b, G b → b < w.heap.size := h3.lt
  have hd := d ((h3.fr f1 (fun b hb hF => h4 b hF hb)).frN f2)
  have s1 := f1.size; have s2 := f2.size; have s0 := h1.size
  have dis : ∀ b, gr F w w1 b → ¬ G b := fun b hb hg => by
    rcases hb with hb | hb
    · exact h4 b hb hg
    · have := hG b hg; omega
  refine ⟨Fr.trans (Fr.trans h1 (f1.trans f2 (U := F) (fun _ _ h => h) (fun _ _ h => h.elim)) (U := noB) (fun _ _ h => h) (fun b hb hF => ?_)) f3 (fun _ _ h => h) (fun b hb hg => ?_), gr F w w1, gr G w2 w3, ((t1.frN f2).fr f3 dis), hd, fun b hb hg => ?_, fun b hb => ?_, fun b hb => ?_⟩
  · have := h5 b hF; omega
  · have := h6 b hg; omega
  · rcases hg with hg | hg
    · exact dis b hb hg
    · have := t1.lt b hb; omega
  · rcases hb with hb | hb
    · exact h5 b hb
    · omega
  · rcases hb with hb | hb
    · exact h6 b hb
    · omega

/-- Worlds in which something holds. -/
structure Holds (p : World → Prop) where
  v : World
  has : p v
def actF (most : Int) (fl : List FlowM) (a : ActM) : List FlowM :=
  if a.kind = 1 then (addF most fl a.f).l else if a.kind = 2 then (putF fl a.f).l else if a.kind = 3 then stayF a.n fl else fl
theorem act_flow {w : World} {b o : Nat} {a : ActM} (h : CellsAt w b o a.cells) : CellsAt w b (o + 1) a.f.cells := fun j v hj => by
  have hl : j < 14 := by rw [← FlowM.length a.f]; exact (List.getElem?_eq_some_iff.1 hj).1
  have e : a.cells = .int .i64 a.kind :: (a.f.cells ++ [.int .i64 a.n]) := rfl
  have := h (j + 1) v (by rw [e, List.getElem?_cons_succ, List.getElem?_append_left (by rw [FlowM.length]; exact hl)]; exact hj)
  rw [Nat.add_assoc, Nat.add_comm 1 j]
  exact this
def ActTo (wb : World) (fl' : List FlowM) (most : Int) (g gx : Nat) (e : Ending) (w' : World) : Prop := e = .returned (.bool true) ∧ Both wb w' fl' most g gx

set_option maxHeartbeats 2000000 in
theorem law_act (wb w : World) (fl : List FlowM) (most : Int) (g gx : Nat) (h : Both wb w fl most g gx) (a : ActM) (hwf : a.wf) :
    Calls Try.prog 18 #[.pointer (some ⟨g, 0, none⟩), .pointer (some ⟨gx, 0, none⟩), .agg a.cells.toArray] w (ActTo wb (actF most fl a) most g gx) := by
  obtain ⟨hfb, F, G, ht, hd, hdis, hF, hG⟩ := h
  have hFl := ht.lt
  have hGl := hd.lt
  have hbF : ¬ F w.heap.size := fun hb => by have := hFl _ hb; omega
  have hbG : ¬ G w.heap.size := fun hb => by have := hGl _ hb; omega
  have wff := hwf.2.1
  have Ht := hide ht; have Hd := hide hd; have Hfb := hide hfb; have Hdis := hide hdis; have HF := hide hF; have HG := hide hG; have HFl := hide hFl; have HGl := hide hGl; have HbF := hide hbF; have HbG := hide hbG
  clear ht hd hfb hdis hF hG hFl hGl hbF hbG
  go_enter Try.func18, Try.ntmps18
  go_upto_region 1 with (fail)
  refine wp_gen (fun W => CellsAt W w.heap.size 0 a.cells ∧ Fr noB w W) ⟨by (repeat (first | assumption | exact cells_new _ _ _ (by simp) | refine CellsAt.alloc ?_ _ | refine CellsAt.drew ?_ | refine CellsAt.drewN ?_ _)), (Fr.refl _ _).alloc _⟩ ?_
  rintro w1 ⟨hca, hf⟩
  have c0 : w1.cell? ⟨w.heap.size, 0, none⟩ = some (.int .i64 a.kind) := by have := hca 0 _ rfl; rwa [Nat.zero_add] at this
  have Hca := hide hca; have Hf := hide hf
  clear hca hf
  have hflow : ∀ W, CellsAt W w.heap.size 0 a.cells → CellsAt W w.heap.size 1 a.f.cells := fun W h => act_flow h
  have Hflow := hide hflow
  clear hflow
  have step := fun {w1 w2 w2' w3 : World} {fl' : List FlowM} (hw : Fr noB w w1) => both_step (w := w1) (w1 := w2) (w2 := w2') (w3 := w3) (fl' := fl') (g := g) (gx := gx) (Hfb.out.tr hw) (Hd.out.frN hw) Hdis.out HF.out HG.out (fun b hb => by have := HFl.out b hb; have := hw.size; omega)
  by_cases k1 : a.kind = 1
  · have hA : actF most fl a = (addF most fl a.f).l := by unfold actF; rw [if_pos k1]
    rw [k1] at c0
    have HA := hide hA
    clear k1 hA
    go_upto_region 3 with (fail)
    clear c0
    haveI : Nonempty (Holds (fun W => CellsAt W w.heap.size 0 a.cells)) := ⟨⟨w1, Hca.out⟩⟩
    refine wp_region_mix (fun W => ∃ z : Holds (fun W => CellsAt W w.heap.size 0 a.cells), W = z.v) (by kernel_rfl) (by kernel_rfl) ⟨⟨w1.drew, Hca.out⟩, rfl⟩ ?_
    iterate 2 (first | (refine wpMix_skip rfl ?_; simp only [Act.put, List.setIfInBounds_toArray, List.set_cons_succ, List.set_cons_zero]) | (refine wpMix_calm rfl rfl (fun K hK => ?_); go_big_quiet_op; refine hK _ ?_; clear hK K))
    refine wpMix_load_atw rfl 29 (.tmp 18) rfl w.heap.size 1 rfl a.f.cells (fun W hW => by obtain ⟨z, rfl⟩ := hW; exact Hflow.out _ z.has) _ Try.underlying29 rfl (by kernel_rfl) ?_
    simp only [Act.put, List.setIfInBounds_toArray, List.set_cons_succ, List.set_cons_zero]
    refine wpMix_spine rfl rfl (fun K hK => ?_); go_wp2_with fail
    refine (flows_add _ F g fl most (Ht.out.frN Hf.out.drew) a.f wff).mono ?_
    rintro e w2 ⟨rfl, t1, f1⟩
    have hc2 : CellsAt w2 w.heap.size 0 a.cells := CellsAt.fr (w := w1.drew) Hca.out f1 HbF.out
    have d2 := (Hd.out.frN Hf.out.drew).fr f1 (fun b hb h => Hdis.out b h hb)
    refine hK _ _ rfl ⟨⟨_, hc2⟩, rfl⟩ ?_
    clear hK K
    iterate 2 (first | (refine wpMix_skip rfl ?_; simp only [Act.put, List.setIfInBounds_toArray, List.set_cons_succ, List.set_cons_zero]) | (refine wpMix_calm rfl rfl (fun K hK => ?_); go_big_quiet_op; refine hK _ ?_; clear hK K))
    refine wpMix_load_atw rfl 29 (.tmp 22) rfl w.heap.size 1 rfl a.f.cells (fun W hW => by obtain ⟨z, rfl⟩ := hW; exact Hflow.out _ z.has) _ Try.underlying29 rfl (by kernel_rfl) ?_
    simp only [Act.put, List.setIfInBounds_toArray, List.set_cons_succ, List.set_cons_zero]
    refine wpMix_spine rfl rfl (fun K hK => ?_); go_wp2_with fail
    refine (doc_add _ G gx fl most d2 a.f wff).mono ?_
    rintro e w3 ⟨rfl, d3, f3⟩
    refine hK _ _ rfl ⟨⟨_, hc2.fr f3 HbG.out⟩, rfl⟩ ?_
    clear hK K
    have HB := hide (step Hf.out.drew t1 f1 (Fr.refl noB _) (fun _ => d3) f3)
    clear t1 f1 d2 d3 f3 hc2
    repeat (first | (refine wpMix_skip rfl ?_; simp only [Act.put, List.setIfInBounds_toArray, List.set_cons_succ, List.set_cons_zero]) | (refine wpMix_calm rfl rfl (fun K hK => ?_); go_big_quiet_op; refine hK _ ?_; clear hK K))
    refine wpMix_nil ?_
    go_wp2_with fail
    go_ret
    refine ⟨rfl, ?_⟩
    rw [HA.out]
    exact HB.out
  by_cases k2 : a.kind = 2
  · have hA : actF most fl a = (putF fl a.f).l := by unfold actF; rw [if_neg k1, if_pos k2]
    rw [k2] at c0
    have HA := hide hA
    clear k1 k2 hA
    go_upto_region 5 with (fail)
    clear c0
    haveI : Nonempty (Holds (fun W => CellsAt W w.heap.size 0 a.cells)) := ⟨⟨w1, Hca.out⟩⟩
    refine wp_region_mix (fun W => ∃ z : Holds (fun W => CellsAt W w.heap.size 0 a.cells), W = z.v) (by kernel_rfl) (by kernel_rfl) ⟨⟨w1.drew, Hca.out⟩, rfl⟩ ?_
    iterate 2 (first | (refine wpMix_skip rfl ?_; simp only [Act.put, List.setIfInBounds_toArray, List.set_cons_succ, List.set_cons_zero]) | (refine wpMix_calm rfl rfl (fun K hK => ?_); go_big_quiet_op; refine hK _ ?_; clear hK K))
    refine wpMix_load_atw rfl 29 (.tmp 29) rfl w.heap.size 1 rfl a.f.cells (fun W hW => by obtain ⟨z, rfl⟩ := hW; exact Hflow.out _ z.has) _ Try.underlying29 rfl (by kernel_rfl) ?_
    simp only [Act.put, List.setIfInBounds_toArray, List.set_cons_succ, List.set_cons_zero]
    refine wpMix_spine rfl rfl (fun K hK => ?_); go_wp2_with fail
    refine (flows_put _ F g fl most (Ht.out.frN Hf.out.drew) a.f wff).mono ?_
    rintro e w2 ⟨rfl, t1, f1⟩
    have hc2 : CellsAt w2 w.heap.size 0 a.cells := CellsAt.fr (w := w1.drew) Hca.out f1 HbF.out
    have d2 := (Hd.out.frN Hf.out.drew).fr f1 (fun b hb h => Hdis.out b h hb)
    refine hK _ _ rfl ⟨⟨_, hc2⟩, rfl⟩ ?_
    clear hK K
    iterate 2 (first | (refine wpMix_skip rfl ?_; simp only [Act.put, List.setIfInBounds_toArray, List.set_cons_succ, List.set_cons_zero]) | (refine wpMix_calm rfl rfl (fun K hK => ?_); go_big_quiet_op; refine hK _ ?_; clear hK K))
    refine wpMix_load_atw rfl 29 (.tmp 33) rfl w.heap.size 1 rfl a.f.cells (fun W hW => by obtain ⟨z, rfl⟩ := hW; exact Hflow.out _ z.has) _ Try.underlying29 rfl (by kernel_rfl) ?_
    simp only [Act.put, List.setIfInBounds_toArray, List.set_cons_succ, List.set_cons_zero]
    refine wpMix_spine rfl rfl (fun K hK => ?_); go_wp2_with fail
    refine (doc_put _ G gx fl most d2 a.f wff).mono ?_
    rintro e w3 ⟨rfl, d3, f3⟩
    refine hK _ _ rfl ⟨⟨_, hc2.fr f3 HbG.out⟩, rfl⟩ ?_
    clear hK K
    have HB := hide (step Hf.out.drew t1 f1 (Fr.refl noB _) (fun _ => d3) f3)
    clear t1 f1 d2 d3 f3 hc2
    repeat (first | (refine wpMix_skip rfl ?_; simp only [Act.put, List.setIfInBounds_toArray, List.set_cons_succ, List.set_cons_zero]) | (refine wpMix_calm rfl rfl (fun K hK => ?_); go_big_quiet_op; refine hK _ ?_; clear hK K))
    refine wpMix_nil ?_
    go_wp2_with fail
    go_ret
    refine ⟨rfl, ?_⟩
    rw [HA.out]
    exact HB.out
  by_cases k3 : a.kind = 3
  · have hA : actF most fl a = stayF a.n fl := by unfold actF; rw [if_neg k1, if_neg k2, if_pos k3]
    rw [k3] at c0
    have HA := hide hA
    clear k1 k2 k3 hA
    go_upto_region 7 with (fail)
    clear c0
    have hn : ∀ W, CellsAt W w.heap.size 0 a.cells → W.cell? ⟨w.heap.size, 15, none⟩ = some (.int .i64 a.n) := fun W h => by have := h 15 _ rfl; rwa [Nat.zero_add] at this
    have hn' : ∀ z : Holds (fun W => CellsAt W w.heap.size 0 a.cells), z.v.cell? ⟨w.heap.size, 15, none⟩ = some (.int .i64 a.n) := fun z => hn z.v z.has
    haveI : Nonempty (Holds (fun W => CellsAt W w.heap.size 0 a.cells)) := ⟨⟨w1, Hca.out⟩⟩
    clear hn
    refine wp_region_mix (fun W => ∃ z : Holds (fun W => CellsAt W w.heap.size 0 a.cells), W = z.v) (by kernel_rfl) (by kernel_rfl) ⟨⟨w1.drew, Hca.out⟩, rfl⟩ ?_
    iterate 3 (first | (refine wpMix_skip rfl ?_; simp only [Act.put, List.setIfInBounds_toArray, List.set_cons_succ, List.set_cons_zero]) | (refine wpMix_calm rfl rfl (fun K hK => ?_); go_big_quiet_op; refine hK _ ?_; clear hK K))
    refine wpMix_spine rfl rfl (fun K hK => ?_); go_wp2_with fail
    refine (flows_expire _ F g fl most (Ht.out.frN Hf.out.drew) a.n).mono ?_
    rintro e w2 ⟨s1, rfl, n1, t1, f1⟩
    have hc2 : CellsAt w2 w.heap.size 0 a.cells := CellsAt.fr (w := w1.drew) Hca.out f1 HbF.out
    have d2 := (Hd.out.frN Hf.out.drew).fr f1 (fun b hb h => Hdis.out b h hb)
    refine hK _ _ rfl ⟨⟨_, hc2⟩, rfl⟩ ?_
    clear hK K
    iterate 3 (first | (refine wpMix_skip rfl ?_; simp only [Act.put, List.setIfInBounds_toArray, List.set_cons_succ, List.set_cons_zero]) | (refine wpMix_calm rfl rfl (fun K hK => ?_); go_big_quiet_op; refine hK _ ?_; clear hK K))
    refine wpMix_spine rfl rfl (fun K hK => ?_); go_wp2_with fail
    refine (doc_expire _ G gx fl most d2 a.n).mono ?_
    rintro e w3 ⟨s2, rfl, n2, d3, f3⟩
    have hc3 := hc2.fr f3 HbG.out
    refine hK _ _ rfl ⟨⟨_, hc3⟩, rfl⟩ ?_
    clear hK K
    have hwg : ∀ f ∈ goneF a.n fl, f.wf := fun f hf => Ht.out.wf f (List.mem_filter.1 hf).1
    have r1 := (n1.frS f3 (fun b hb h => by have h2 : w1.heap.size ≤ b := n1.2 b hb; have := HGl.out b h; have := Hf.out.size; omega)).slof FlowM.length hwg
    have r2 := n2.slof FlowM.length hwg
    refine wpMix_spine rfl rfl (fun K hK => ?_); go_wp2_with fail
    refine (law_rows s1 _ s2 _ _ r1 r2).mono ?_
    rintro e w4 ⟨rfl, f4⟩
    have HB := hide ((step Hf.out.drew t1 f1 (Fr.refl noB _) (fun _ => d3) f3).frN f4)
    refine hK _ _ rfl ⟨⟨_, hc3.fr f4 (fun h => h)⟩, rfl⟩ ?_
    clear hK K t1 f1 d2 d3 f3 hc2 hc3 n1 n2 r1 r2 hn'
    rw [decide_eq_true rfl]
    repeat (first | (refine wpMix_skip rfl ?_; simp only [Act.put, List.setIfInBounds_toArray, List.set_cons_succ, List.set_cons_zero]) | (refine wpMix_calm rfl rfl (fun K hK => ?_); go_big_quiet_op; refine hK _ ?_; clear hK K))
    refine wpMix_nil ?_
    go_wp2_with fail
    go_ret
    refine ⟨rfl, ?_⟩
    rw [HA.out]
    exact HB.out
  have hA : actF most fl a = fl := by unfold actF; rw [if_neg k1, if_neg k2, if_neg k3]
  have HA := hide hA
  have hkey : CellsAt w1 w.heap.size 1 a.f.key.cells := key_of_flow (Hflow.out _ Hca.out)
  have Hkey := hide hkey
  clear hA
  go_upto_region 8 with (fail)
  clear c0
  go_wp2_with (refine wpList_load_at rfl 25 _ rfl _ _ rfl (KeyM.cells _) (by (repeat (first | assumption | exact cells_new _ _ _ (by simp) | refine CellsAt.alloc ?_ _ | refine CellsAt.drew ?_ | refine CellsAt.drewN ?_ _))) _ Try.underlying25 rfl (by kernel_rfl) ?_)
  clear hkey
  refine (flows_find _ F g fl most (Ht.out.frN Hf.out) a.f.key).mono ?_
  rintro e w2 ⟨rfl, f2⟩
  obtain ⟨x, hx⟩ : ∃ x, findF fl a.f.key = x := ⟨_, rfl⟩
  rw [hx]
  have Hx := hide hx
  clear hx
  unfold foundV
  have Hf2 := hide (Hf.out.tr f2); have Hkey2 := hide (Hkey.out.fr f2 (fun h => h))
  clear f2
  go_upto_region 9 with (refine wpList_store_new rfl 29 _ _ rfl _ _ (FlowM.cells _) _ rfl rfl (by simp) (by kernel_rfl) rfl (by kernel_rfl) ?_)
  refine wp_gen (fun W => CellsAt W w2.heap.size 0 x.f.cells ∧ CellsAt W w.heap.size 1 a.f.key.cells ∧ Fr noB w2 W) ⟨by (repeat (first | assumption | exact cells_new _ _ _ (by simp) | refine CellsAt.alloc ?_ _ | refine CellsAt.drew ?_ | refine CellsAt.drewN ?_ _)), Hkey2.out.alloc _, (Fr.refl _ _).alloc _⟩ ?_
  rintro w3 ⟨hc3, hk3, f3⟩
  have Hf3 := hide (Hf2.out.tr f3)
  have Hc3 := hide hc3
  clear f3 hc3
  go_wp2_with (refine wpList_load_at rfl 25 _ rfl _ _ rfl (KeyM.cells _) (by (repeat (first | assumption | exact cells_new _ _ _ (by simp) | refine CellsAt.alloc ?_ _ | refine CellsAt.drew ?_ | refine CellsAt.drewN ?_ _))) _ Try.underlying25 rfl (by kernel_rfl) ?_)
  refine (doc_find _ G gx fl most (Hd.out.frN Hf3.out) a.f.key).mono ?_
  rintro e w4 ⟨rfl, f4⟩
  rw [Hx.out]
  unfold foundV
  have Hf4 := hide (Hf3.out.tr f4)
  have hc4 := Hc3.out.fr f4 (fun h => h)
  clear f4 hk3
  go_wp2_with (first | (refine wpList_store_new rfl 29 _ _ rfl _ _ (FlowM.cells _) _ rfl rfl (by simp) (by kernel_rfl) rfl (by kernel_rfl) ?_) | (refine wpList_load_at rfl 29 _ rfl _ _ rfl (FlowM.cells _) (by (repeat (first | assumption | exact cells_new _ _ _ (by simp) | refine CellsAt.alloc ?_ _ | refine CellsAt.drew ?_ | refine CellsAt.drewN ?_ _))) _ Try.underlying29 rfl (by kernel_rfl) ?_) | (refine wpList_eqs rfl false 29 (.tmp 66) (.tmp 67) rfl x.f.cells.toArray x.f.cells.toArray rfl rfl true (by kernel_rfl) (by rw [flow_equal, decide_eq_true rfl]) ?_))
  go_ret
  refine ⟨rfl, ?_⟩
  rw [HA.out]
  exact Both.frN ⟨Hfb.out, F, G, Ht.out, Hd.out, Hdis.out, HF.out, HG.out⟩ (Hf4.out.alloc _)
end Go.Proofs.Ytjfjpibjjliagaa
