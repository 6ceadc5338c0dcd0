/- rib: Add, Del. -/
import Derived.Test.YtdmghildjadjeaaRibOps
namespace Go.Proofs.Ytdmghildjadjeaa
open Go.RowKit Go.BigFrame
set_option linter.unusedSimpArgs false
set_option linter.unusedVariables false
attribute [local irreducible] wpMix wpAnyG

theorem blk_ne_own {w : World} {g : Nat} {cs : Array Value} {t : TypeId} {s : SlV} {l : List RouteM} (hb : Blk w g cs t) (ho : OwnR w s l) (ht : t ≠ 26) : ¬ ownB s g := by
  rintro ⟨a, ha, rfl⟩
  rcases ho.2 with rfl | ⟨g', junk, ha', hb', _⟩
  · simp at ha
  · rw [ha] at ha'
    obtain rfl := Option.some.inj ha'
    unfold Blk at hb hb'
    rw [hb] at hb'
    simp only [Option.some.injEq, Obj.cells.injEq] at hb'
    exact ht hb'.2.1

theorem rib_add_nil (r : RouteM) (w : World) : Calls Try.prog 15 #[.pointer none, .agg r.cells.toArray] w fun e w' => e = .returned (.int .i64 1) ∧ Fr noB w w' := by
  go_enter Try.func15, Try.ntmps15
  go_wp2_with fail
  go_ret
  exact ⟨rfl, (Fr.refl _ _).alloc _⟩
theorem rib_del_nil (r : RouteM) (w : World) : Calls Try.prog 27 #[.pointer none, .agg r.cells.toArray] w fun e w' => e = .returned (.int .i64 1) ∧ Fr noB w w' := by
  go_enter Try.func27, Try.ntmps27
  go_wp2_with fail
  go_ret
  exact ⟨rfl, (Fr.refl _ _).alloc _⟩

/-- The table behind a change of its slice. -/
theorem rib_upd {w w3 w' : World} {F : Nat → Prop} {g : Nat} {l l' : List RouteM} {s s' : SlV} (h : Rib w F g l) (hb : Blk w' g #[.slice s'.a s'.len s'.cap] 59) (ho : OwnR w' s' l') (hF : Fr F w w') (hs : ∀ b, ownB s' b → F b ∨ w.heap.size ≤ b)
    (hsort : SortedR l') (hlen : l'.length ≤ 256) (hwf : ∀ r ∈ l', r.wf) (his : ∀ r ∈ l', isR r = true) : Rib w' (gr F w w') g l' := by
  refine ⟨⟨s', hb, ho, blk_ne_own hb ho (by decide), fun b hb => ?_⟩, .inl h.here, fun b hb => ?_, hsort, hlen, hwf, his⟩
  · rcases hs b hb with h1 | h1
    · exact .inl h1
    · exact .inr ⟨h1, ho.lt b hb⟩
  · rcases hb with h1 | h1
    · exact hF.lt (h.lt b h1)
    · exact h1.2

set_option maxRecDepth 100000 in
set_option maxHeartbeats 2000000 in
theorem rib_add (w : World) (F : Nat → Prop) (g : Nat) (l : List RouteM) (h : Rib w F g l) (r : RouteM) (hr : r.wf) :
    Calls Try.prog 15 #[.pointer (some ⟨g, 0, none⟩), .agg r.cells.toArray] w (RibTo w F g (addR l r).l (.int .i64 (addR l r).e)) := by
  have H := hide h
  have hgl := h.lt g h.here
  have hlen := h.len
  clear h
  go_enter Try.func15, Try.ntmps15
  go_upto_region 1 with (fail)
  refine wp_gen (fun W => CellsAt W w.heap.size 0 r.cells ∧ Fr noB w W ∧ W.heap.size = w.heap.size + 1) ⟨by (repeat (first | assumption | exact cells_new _ _ _ (by simp) | refine CellsAt.alloc ?_ _ | refine CellsAt.drew ?_ | refine CellsAt.drewN ?_ _)), (Fr.refl _ _).alloc _, by simp⟩ ?_
  rintro w1 ⟨hc, hf, hw1⟩
  have Hc := hide hc; have Hf := hide hf
  clear hf
  go_wp2_with (refine wpList_load_atw rfl 26 _ rfl _ _ rfl (RouteM.cells _) (by (repeat (first | assumption | exact cells_new _ _ _ (by simp) | refine CellsAt.alloc ?_ _ | refine CellsAt.drew ?_ | refine CellsAt.drewN ?_ _))) _ Try.underlying26 rfl (by kernel_rfl) ?_)
  refine (rib_is r hr _).mono ?_
  rintro e w2 ⟨rfl, hf2⟩
  have Hf2 := hide (Hf.out.tr hf2); have Hc2 := hide (Hc.out.fr hf2 (fun h => h))
  have hw2 : w.heap.size < w2.heap.size := by have := hf2.size; omega
  clear hf2 hc hw1
  cases his : isR r with
  | false =>
    have HA := hide (show addR l r = ⟨1, l⟩ from by unfold addR; rw [if_pos his])
    clear his
    go_wp2_with fail
    go_ret
    unfold RibTo
    rw [HA.out]
    exact ⟨rfl, H.out.same Hf2.out⟩
  | true =>
    have His := hide his
    clear his
    have H2 := hide (H.out.frN Hf2.out)
    obtain ⟨⟨⟨sa, sl, sc⟩, hblk, hown, hnb, hF2⟩, hF0, hlt, hsort, _, hwfs, hiss⟩ := H2.out
    have hsl : sl = l.length := hown.1
    have Hblk := hide hblk; have Hown := hide hown; have HF2 := hide hF2; have Hnb := hide hnb; have Hsort := hide hsort; have Hsl := hide hsl
    have hmax : sl ≤ 256 := by omega
    have hg0 : ∀ z : Grow w2, z.v.cell? ⟨g, 0, none⟩ = some (.slice sa sl sc) := fun z => (hblk.fr z.fr (fun h => h)).cell 0
    have hcr : CellsAt w2 w.heap.size 0 r.cells := Hc2.out
    clear hblk hown hnb hF2 hsort hsl hlt hwfs hiss
    go_upto_region 3 with (fail)
    refine wp_region_mix (fun W => ∃ z : Grow w2, W = z.v) (by kernel_rfl) (by kernel_rfl) (inGrow (Fr.refl _ _).drew) ?_
    iterate 4 (first | (refine wpMix_skip rfl ?_; simp only [Act.put, List.setIfInBounds_toArray, List.set_cons_succ, List.set_cons_zero]) | (refine wpMix_calm rfl rfl (fun K hK => ?_); go_big_quiet_op; refine hK _ ?_; clear hK K))
    (refine wpMix_load_atw rfl 26 (.tmp 3) rfl _ _ rfl (RouteM.cells _) (fun W hW => by obtain ⟨z, rfl⟩ := hW; exact CellsAt.fr (by (repeat (first | assumption | exact cells_new _ _ _ (by simp) | refine CellsAt.alloc ?_ _ | refine CellsAt.drew ?_ | refine CellsAt.drewN ?_ _))) z.fr (fun h => h)) _ Try.underlying26 rfl (by kernel_rfl) ?_; simp only [Act.put, List.setIfInBounds_toArray, List.set_cons_succ, List.set_cons_zero])
    refine wpMix_spine rfl rfl (fun K hK => ?_); go_wp2_with fail
    refine (rib_search w2.drew ⟨sa, sl, sc⟩ l r Hown.out Hsort.out hlen).mono ?_
    rintro e w3 ⟨rfl, hf3⟩
    have Hf3 := hide ((Fr.refl noB w2).drew.tr hf3)
    refine hK _ _ rfl (inGrow Hf3.out) ?_
    clear hK K hf3 hg0 hcr
    unfold searchV
    have hple := posR_le l r
    cases hh : hasR l r with
    | true =>
      have Hh := hide hh
      have hilt := hasR_lt hh
      obtain ⟨x, hx, hsame⟩ := hasR_some hh
      have HA := hide (show addR l r = ⟨0, l.set (posR l r) r⟩ from by unfold addR putR; rw [His.out, hh]; simp)
      have Hx := hide hx; have Hsame := hide hsame
      generalize posR l r = i at *
      clear hh hx hsame
      repeat (first | (refine wpMix_skip rfl ?_; simp only [Act.put, List.setIfInBounds_toArray, List.set_cons_succ, List.set_cons_zero]) | (refine wpMix_calm rfl rfl (fun K hK => ?_); go_big_quiet_op; refine hK _ ?_; clear hK K))
      refine wpMix_nil ?_
      obtain ⟨gs, rfl, hil, _, _⟩ := own_at Hown.out RouteM.length Hx.out
      have hil : i < sl := hil
      have hmul : ((i : Int) * 6).toNat = i * 6 := by omega
      have Hblk3 := hide (Hblk.out.fr Hf3.out (fun h => h)); have Hown3 := hide (Hown.out.fr Hf3.out (fun _ _ h => h))
      have hg3 : ∀ z : Grow w3, z.v.cell? ⟨g, 0, none⟩ = some (.slice (some ⟨gs, 0, none⟩) sl sc) := fun z => (Hblk3.out.fr z.fr (fun h => h)).cell 0
      have hcr3 : CellsAt w3 w.heap.size 0 r.cells := Hc2.out.fr Hf3.out (fun h => h)
      go_upto_region 6 with (fail)
      refine wp_region_mixT 7 (fun W => ∃ z : Grow w3, W = z.v) (by kernel_rfl) (by kernel_rfl) (inGrow (Fr.refl _ _).drew) ?_
      simp only [List.take_succ_cons, List.take_zero, List.drop_succ_cons, List.drop_zero]
      iterate 5 (first | (refine wpMix_skip rfl ?_; simp only [Act.put, List.setIfInBounds_toArray, List.set_cons_succ, List.set_cons_zero]) | (refine wpMix_calm rfl rfl (fun K hK => ?_); go_big_quiet_op; refine hK _ ?_; clear hK K))
      (refine wpMix_load_atw rfl 26 (.tmp 3) rfl _ _ rfl (RouteM.cells _) (fun W hW => by obtain ⟨z, rfl⟩ := hW; exact CellsAt.fr (by (repeat (first | assumption | exact cells_new _ _ _ (by simp) | refine CellsAt.alloc ?_ _ | refine CellsAt.drew ?_ | refine CellsAt.drewN ?_ _))) z.fr (fun h => h)) _ Try.underlying26 rfl (by kernel_rfl) ?_; simp only [Act.put, List.setIfInBounds_toArray, List.set_cons_succ, List.set_cons_zero])
      repeat (first | (refine wpMix_skip rfl ?_; simp only [Act.put, List.setIfInBounds_toArray, List.set_cons_succ, List.set_cons_zero]) | (refine wpMix_calm rfl rfl (fun K hK => ?_); go_big_quiet_op; refine hK _ ?_; clear hK K))
      refine wpMix_nil ?_
      have hownd : OwnR w3.drew ⟨some ⟨gs, 0, none⟩, sl, sc⟩ l := Hown3.out
      refine wpList_store_elem rfl 26 (.tmp 42) (.tmp 41) rfl hownd RouteM.length rfl i hilt r (by go_simp) rfl (by kernel_rfl) (RouteM.mem r) ?_
      intro w4 hown4 hf4 hsz4
      simp only [Act.put, List.setIfInBounds_toArray, List.set_cons_succ, List.set_cons_zero]
      have Hown4 := hide hown4
      have Hf4 := hide (show Fr (oneB gs) w3 w4 from ((Fr.refl (oneB gs) w3).drew).tr hf4)
      clear hownd hown4 hf4 hsz4 hcr3 hg3
      go_wp2_with fail
      go_ret
      unfold RibTo
      rw [HA.out]
      have hFgs : F gs := HF2.out gs ⟨_, rfl, rfl⟩
      have hFR : Fr F w w4 := Fr.trans (Hf2.out.tr Hf3.out) Hf4.out (fun _ _ h => h.elim) (fun b _ e => by unfold oneB at e; subst e; exact hFgs)
      refine ⟨rfl, rib_upd (w3 := w3) (s := ⟨some ⟨gs, 0, none⟩, sl, sc⟩) H.out (s' := ⟨some ⟨gs, 0, none⟩, sl, sc⟩) (Hblk3.out.fr Hf4.out (fun e => Hnb.out ⟨_, rfl, e.symm⟩)) Hown4.out hFR (fun b hb => .inl (HF2.out b hb)) (set_sorted Hsort.out Hx.out Hsame.out) (by rw [List.length_set]; exact hlen) ?_ ?_, hFR⟩
      · intro y hy
        rcases List.mem_or_eq_of_mem_set hy with h | rfl
        · exact H.out.wf y h
        · exact hr
      · intro y hy
        rcases List.mem_or_eq_of_mem_set hy with h | rfl
        · exact H.out.is y h
        · exact His.out
    | false =>
      have Hh := hide hh
      by_cases hfull : 256 ≤ sl
      · have HA := hide (show addR l r = ⟨6, l⟩ from by unfold addR; rw [His.out, hh]; have := Hsl.out; simp; omega)
        generalize posR l r = i at *
        clear hh
        repeat (first | (refine wpMix_skip rfl ?_; simp only [Act.put, List.setIfInBounds_toArray, List.set_cons_succ, List.set_cons_zero]) | (refine wpMix_calm rfl rfl (fun K hK => ?_); go_big_quiet_op; refine hK _ ?_; clear hK K))
        refine wpMix_nil ?_
        have c0 : w3.cell? ⟨g, 0, none⟩ = some (.slice sa sl sc) := (Hblk.out.fr Hf3.out (fun h => h)).cell 0
        go_wp2_with fail
        go_ret
        unfold RibTo
        rw [HA.out]
        exact ⟨rfl, H.out.same (Hf2.out.tr Hf3.out)⟩
      · have HA := hide (show addR l r = ⟨0, insL l (posR l r) r⟩ from by unfold addR putR insL; rw [His.out, hh]; have := Hsl.out; simp; omega)
        have Hins := hide (ins_sorted Hsort.out hh)
        generalize posR l r = i at *
        clear hh
        repeat (first | (refine wpMix_skip rfl ?_; simp only [Act.put, List.setIfInBounds_toArray, List.set_cons_succ, List.set_cons_zero]) | (refine wpMix_calm rfl rfl (fun K hK => ?_); go_big_quiet_op; refine hK _ ?_; clear hK K))
        refine wpMix_nil ?_
        have Hblk3 := hide (Hblk.out.fr Hf3.out (fun h => h)); have Hown3 := hide (Hown.out.fr Hf3.out (fun _ _ h => h))
        have c0 : w3.cell? ⟨g, 0, none⟩ = some (.slice sa sl sc) := Hblk3.out.cell 0
        have hw3 : w.heap.size < w3.heap.size := by have := Hf3.out.size; omega
        have hown3lt : ∀ b, ownB ⟨sa, sl, sc⟩ b → b < w.heap.size := fun b hb => H.out.lt b (HF2.out b hb)
        have Hlt := hide hown3lt
        have hg3 : ∀ z : GrowS (ownB ⟨sa, sl, sc⟩) w3, z.v.cell? ⟨g, 0, none⟩ = some (.slice sa sl sc) := fun z => (Hblk3.out.fr z.fr Hnb.out).cell 0
        have hcr3 : CellsAt w3 w.heap.size 0 r.cells := Hc2.out.fr Hf3.out (fun h => h)
        have Hcr3 := hide hcr3
        clear hown3lt hcr3
        go_upto_region 4 with (fail)
        clear c0
        refine wp_region_mixT 11 (fun W => ∃ z : GrowS (ownB ⟨sa, sl, sc⟩) w3, W = z.v) (by kernel_rfl) (by kernel_rfl) (inGrowS (Fr.refl _ _).drew) ?_
        simp only [List.take_succ_cons, List.take_zero, List.drop_succ_cons, List.drop_zero]
        iterate 6 (first | (refine wpMix_skip rfl ?_; simp only [Act.put, List.setIfInBounds_toArray, List.set_cons_succ, List.set_cons_zero]) | (refine wpMix_calm rfl rfl (fun K hK => ?_); go_big_quiet_op; refine hK _ ?_; clear hK K))
        refine wpMix_load_atw rfl 26 (.tmp 3) rfl _ _ rfl r.cells (fun W hW => by obtain ⟨z, rfl⟩ := hW; exact Hcr3.out.fr z.fr (fun hb => by have := Hlt.out _ hb; omega)) _ Try.underlying26 rfl (by kernel_rfl) ?_
        simp only [Act.put, List.setIfInBounds_toArray, List.set_cons_succ, List.set_cons_zero]
        refine wpMix_buildSlice rfl 35 1 _ rfl #[(0, .agg r.cells.toArray)] (by kernel_rfl) Try.underlying35 (.agg zeroR.cells.toArray) 6 (by kernel_rfl) r.cells.toArray (by decide) (by decide) (by kernel_rfl) (inGrowS ((Fr.refl _ _).drew.alloc _)) ?_
        simp only [Act.put, List.setIfInBounds_toArray, List.set_cons_succ, List.set_cons_zero]
        have Hvb := hide (Blk.alloc_new w3.drew r.cells.toArray 26)
        have Hfv := hide (show Fr noB w3 (w3.drew.alloc (.cells r.cells.toArray 26)) from (Fr.refl noB w3).drew.alloc _)
        generalize w3.drew.alloc (.cells r.cells.toArray 26) = wv at *
        have hvb : w3.drew.heap.size = w3.heap.size := rfl
        rw [hvb] at Hvb
        refine wpMix_spine rfl rfl (fun K hK => ?_); go_wp2_with fail
        have hownv : OwnR wv ⟨sa, sl, sc⟩ l := Hown3.out.fr Hfv.out (fun _ _ h => h)
        refine (rib_insert wv ⟨sa, sl, sc⟩ l r i w3.heap.size hownv hple (by have := Hsl.out; omega) Hvb.out (fun hb => by have := Hlt.out _ hb; omega)).mono ?_
        rintro e w4 ⟨s4, rfl, hown4, hf4, hob4⟩
        have Hown4 := hide hown4
        have Hf4 := hide (show Fr (ownB ⟨sa, sl, sc⟩) w3 w4 from Fr.trans Hfv.out hf4 (fun _ _ h => h.elim) (fun _ _ h => h))
        have Hob4 := hide (show ∀ b, ownB s4 b → F b ∨ w.heap.size ≤ b from fun b hb => by
          rcases hob4 b hb with h1 | h1
          · exact .inl (HF2.out b h1)
          · exact .inr (by have := Hfv.out.size; omega))
        refine hK _ _ rfl (inGrowS Hf4.out) ?_
        clear hK K hown4 hf4 hob4 hownv hg3
        obtain ⟨s4a, s4l, s4c⟩ := s4
        have Hblk4 := hide (Hblk3.out.fr Hf4.out Hnb.out)
        have c4 : w4.cell? ⟨g, 0, none⟩ = some (.slice sa sl sc) := Hblk4.out.cell 0
        have z4 : w4.frozen? ⟨g, 0, none⟩ = false := Hblk4.out.free 0
        have hg4 : g < w4.heap.size := by have := Hf4.out.size; omega
        repeat (first | (refine wpMix_skip rfl ?_; simp only [Act.put, List.setIfInBounds_toArray, List.set_cons_succ, List.set_cons_zero]) | (refine wpMix_calm rfl rfl (fun K hK => ?_); go_big_quiet_op; refine hK _ ?_; clear hK K))
        refine wpMix_nil ?_
        go_wp2_with fail
        go_ret
        unfold RibTo
        rw [HA.out]
        have hFR4 : Fr F w w4 := Fr.trans (Hf2.out.tr Hf3.out) Hf4.out (fun _ _ h => h.elim) (fun b _ hb => HF2.out b hb)
        have hFR : Fr F w (w4.setCell ⟨g, 0, none⟩ (.slice s4a s4l s4c)) := hFR4.setCell (.inr H.out.here) _
        have hown5 : OwnR (w4.setCell ⟨g, 0, none⟩ (.slice s4a s4l s4c)) ⟨s4a, s4l, s4c⟩ (insL l i r) :=
          Hown4.out.fr ((Fr.refl (oneB g) w4).setCell (p := ⟨g, 0, none⟩) (.inr rfl) _) (fun b hb e => by unfold oneB at e; subst e; exact blk_ne_own Hblk4.out Hown4.out (by decide) hb)
        refine ⟨rfl, rib_upd (w3 := w3) (s := ⟨sa, sl, sc⟩) H.out (s' := ⟨s4a, s4l, s4c⟩) (Hblk4.out.set 0 _) hown5 hFR Hob4.out ?_ ?_ ?_ ?_, hFR⟩
        · exact Hins.out
        · unfold insL
          rw [List.length_append, List.length_cons, List.length_take, List.length_drop]
          have := Hsl.out; omega
        · intro y hy
          unfold insL at hy
          rcases List.mem_append.1 hy with h1 | h1
          · exact H.out.wf y (List.mem_of_mem_take h1)
          · rcases List.mem_cons.1 h1 with rfl | h1
            · exact hr
            · exact H.out.wf y (List.mem_of_mem_drop h1)
        · intro y hy
          unfold insL at hy
          rcases List.mem_append.1 hy with h1 | h1
          · exact H.out.is y (List.mem_of_mem_take h1)
          · rcases List.mem_cons.1 h1 with rfl | h1
            · exact His.out
            · exact H.out.is y (List.mem_of_mem_drop h1)

set_option maxRecDepth 100000 in
set_option maxHeartbeats 2000000 in
theorem rib_del (w : World) (F : Nat → Prop) (g : Nat) (l : List RouteM) (h : Rib w F g l) (r : RouteM) :
    Calls Try.prog 27 #[.pointer (some ⟨g, 0, none⟩), .agg r.cells.toArray] w (RibTo w F g (delR l r).l (.int .i64 (delR l r).e)) := by
  have H := hide h
  have hgl := h.lt g h.here
  have hlen := h.len
  clear h
  go_enter Try.func27, Try.ntmps27
  go_upto_region 1 with (fail)
  refine wp_gen (fun W => CellsAt W w.heap.size 0 r.cells ∧ Fr noB w W ∧ W.heap.size = w.heap.size + 1) ⟨by (repeat (first | assumption | exact cells_new _ _ _ (by simp) | refine CellsAt.alloc ?_ _ | refine CellsAt.drew ?_ | refine CellsAt.drewN ?_ _)), (Fr.refl _ _).alloc _, by simp⟩ ?_
  rintro w2 ⟨hc, hf, hw2⟩
  have Hc2 := hide hc; have Hf2 := hide hf
  clear hf hc
  have H2 := hide (H.out.frN Hf2.out)
  obtain ⟨⟨⟨sa, sl, sc⟩, hblk, hown, hnb, hF2⟩, hF0, hlt, hsort, _, hwfs, hiss⟩ := H2.out
  have hsl : sl = l.length := hown.1
  have Hblk := hide hblk; have Hown := hide hown; have HF2 := hide hF2; have Hnb := hide hnb; have Hsort := hide hsort; have Hsl := hide hsl
  have hmax : sl ≤ 256 := by omega
  have hg0 : ∀ z : Grow w2, z.v.cell? ⟨g, 0, none⟩ = some (.slice sa sl sc) := fun z => (hblk.fr z.fr (fun h => h)).cell 0
  have hcr : CellsAt w2 w.heap.size 0 r.cells := Hc2.out
  clear hblk hown hnb hF2 hsort hsl hlt hwfs hiss
  go_upto_region 3 with (fail)
  refine wp_region_mix (fun W => ∃ z : Grow w2, W = z.v) (by kernel_rfl) (by kernel_rfl) (inGrow (Fr.refl _ _).drew) ?_
  iterate 4 (first | (refine wpMix_skip rfl ?_; simp only [Act.put, List.setIfInBounds_toArray, List.set_cons_succ, List.set_cons_zero]) | (refine wpMix_calm rfl rfl (fun K hK => ?_); go_big_quiet_op; refine hK _ ?_; clear hK K))
  (refine wpMix_load_atw rfl 26 (.tmp 3) rfl _ _ rfl (RouteM.cells _) (fun W hW => by obtain ⟨z, rfl⟩ := hW; exact CellsAt.fr (by (repeat (first | assumption | exact cells_new _ _ _ (by simp) | refine CellsAt.alloc ?_ _ | refine CellsAt.drew ?_ | refine CellsAt.drewN ?_ _))) z.fr (fun h => h)) _ Try.underlying26 rfl (by kernel_rfl) ?_; simp only [Act.put, List.setIfInBounds_toArray, List.set_cons_succ, List.set_cons_zero])
  refine wpMix_spine rfl rfl (fun K hK => ?_); go_wp2_with fail
  refine (rib_search w2.drew ⟨sa, sl, sc⟩ l r Hown.out Hsort.out hlen).mono ?_
  rintro e w3 ⟨rfl, hf3⟩
  have Hf3 := hide ((Fr.refl noB w2).drew.tr hf3)
  refine hK _ _ rfl (inGrow Hf3.out) ?_
  clear hK K hf3 hg0 hcr
  unfold searchV
  cases hh : hasR l r with
  | false =>
    have HA := hide (show delR l r = ⟨7, l⟩ from by unfold delR; rw [hh]; rfl)
    clear hh
    generalize posR l r = i at *
    repeat (first | (refine wpMix_skip rfl ?_; simp only [Act.put, List.setIfInBounds_toArray, List.set_cons_succ, List.set_cons_zero]) | (refine wpMix_calm rfl rfl (fun K hK => ?_); go_big_quiet_op; refine hK _ ?_; clear hK K))
    refine wpMix_nil ?_
    go_wp2_with fail
    go_ret
    unfold RibTo
    rw [HA.out]
    exact ⟨rfl, H.out.same (Hf2.out.tr Hf3.out)⟩
  | true =>
    have hilt := hasR_lt hh
    have HA := hide (show delR l r = ⟨0, delL l (posR l r)⟩ from by unfold delR delL; rw [hh]; rfl)
    generalize posR l r = i at *
    clear hh
    repeat (first | (refine wpMix_skip rfl ?_; simp only [Act.put, List.setIfInBounds_toArray, List.set_cons_succ, List.set_cons_zero]) | (refine wpMix_calm rfl rfl (fun K hK => ?_); go_big_quiet_op; refine hK _ ?_; clear hK K))
    refine wpMix_nil ?_
    have Hblk3 := hide (Hblk.out.fr Hf3.out (fun h => h)); have Hown3 := hide (Hown.out.fr Hf3.out (fun _ _ h => h))
    have c0 : w3.cell? ⟨g, 0, none⟩ = some (.slice sa sl sc) := Hblk3.out.cell 0
    have hil : i < sl := by have := Hsl.out; omega
    go_wp2_with fail
    refine (rib_delete w3 ⟨sa, sl, sc⟩ l i Hown3.out hilt hlen).mono ?_
    rintro e w4 ⟨s4, rfl, hown4, hf4, hob4⟩
    have Hown4 := hide hown4; have Hf4 := hide hf4
    have Hob4 := hide (show ∀ b, ownB s4 b → F b ∨ w.heap.size ≤ b from fun b hb => by
      rcases hob4 b hb with h1 | h1
      · exact .inl (HF2.out b h1)
      · exact .inr (by have := Hf3.out.size; omega))
    clear hown4 hf4 hob4 c0
    obtain ⟨s4a, s4l, s4c⟩ := s4
    have Hblk4 := hide (Hblk3.out.fr Hf4.out Hnb.out)
    have c4 : w4.cell? ⟨g, 0, none⟩ = some (.slice sa sl sc) := Hblk4.out.cell 0
    have z4 : w4.frozen? ⟨g, 0, none⟩ = false := Hblk4.out.free 0
    have hg4 : g < w4.heap.size := by have := Hf4.out.size; have := Hf3.out.size; omega
    go_wp2_with fail
    go_ret
    unfold RibTo
    rw [HA.out]
    have hFR4 : Fr F w w4 := Fr.trans (Hf2.out.tr Hf3.out) Hf4.out (fun _ _ h => h.elim) (fun b _ hb => HF2.out b hb)
    have hFR : Fr F w (w4.setCell ⟨g, 0, none⟩ (.slice s4a s4l s4c)) := hFR4.setCell (.inr H.out.here) _
    have hown5 : OwnR (w4.setCell ⟨g, 0, none⟩ (.slice s4a s4l s4c)) ⟨s4a, s4l, s4c⟩ (delL l i) :=
      Hown4.out.fr ((Fr.refl (oneB g) w4).setCell (p := ⟨g, 0, none⟩) (.inr rfl) _) (fun b hb e => by unfold oneB at e; subst e; exact blk_ne_own Hblk4.out Hown4.out (by decide) hb)
    have hsub := del_sublist l i
    refine ⟨rfl, rib_upd (w3 := w3) (s := ⟨sa, sl, sc⟩) H.out (s' := ⟨s4a, s4l, s4c⟩) (Hblk4.out.set 0 _) hown5 hFR Hob4.out (Hsort.out.sublist hsub) (Nat.le_trans hsub.length_le hlen) (fun y hy => H.out.wf y (hsub.subset hy)) (fun y hy => H.out.is y (hsub.subset hy)), hFR⟩
end Go.Proofs.Ytdmghildjadjeaa
