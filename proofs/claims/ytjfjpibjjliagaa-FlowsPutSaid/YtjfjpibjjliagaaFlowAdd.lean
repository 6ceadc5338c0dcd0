/- flows.Add. -/
import Derived.Test.YtjfjpibjjliagaaFlowFind
namespace Go.Proofs.Ytjfjpibjjliagaa
open Go.RowKit Go.BigFrame
set_option linter.unusedSimpArgs false
set_option linter.unusedVariables false
attribute [local irreducible] wpMix

theorem blk_ne_map {α : Type} [DecidableEq α] {w : World} {g mb n : Nat} {cs : Array Value} {t : TypeId} {cells : α → List Value} {f : α → Option Int} (h : Blk w g cs t) (k : KMap cells w mb n f) : g ≠ mb := by
  rintro rfl
  obtain ⟨es, c, m, hb, _⟩ := k
  unfold Blk at h
  rw [h] at hb
  simp at hb
theorem own_ne_map {α β : Type} [DecidableEq α] {w : World} {mb n : Nat} {cells : α → List Value} {f : α → Option Int} {e : TypeId} {N : Nat} {cl : β → List Value} {s : SlV} {xs : List β} (h : OwnL w e N cl s xs) (k : KMap cells w mb n f) : ¬ ownB s mb := by
  rintro ⟨a, ha, hb⟩
  obtain ⟨_, rfl | ⟨g, junk, h1, h2, _⟩⟩ := h
  · simp at ha
  · rw [h1] at ha
    obtain rfl := Option.some.inj ha
    exact blk_ne_map h2 k hb
theorem blk_ne_own {β : Type} {w : World} {g : Nat} {cs : Array Value} {t e : TypeId} {N : Nat} {cl : β → List Value} {s : SlV} {xs : List β} (hb : Blk w g cs t) (h : OwnL w e N cl s xs) (hne : t ≠ e) : ¬ ownB s g := by
  rintro ⟨a, ha, hg⟩
  obtain ⟨_, rfl | ⟨g', junk, h1, h2, _⟩⟩ := h
  · simp at ha
  · rw [h1] at ha
    obtain rfl := Option.some.inj ha
    simp only at hg
    subst hg
    unfold Blk at hb h2
    rw [hb] at h2
    simp only [Option.some.injEq, Obj.cells.injEq] at h2
    exact hne h2.2.1
theorem findF_key {fl : List FlowM} {k : KeyM} (h : (findF fl k).ok = false) : ∀ f ∈ fl, f.key ≠ k := by
  unfold findF at h
  cases hi : fl.findIdx? (fun f => decide (f.key = k)) with
  | some i => rw [hi] at h; simp at h
  | none =>
    intro f hf e
    rw [List.findIdx?_eq_none_iff] at hi
    have := hi f hf
    simp [e] at this
theorem fidx_app {fl : List FlowM} {f : FlowM} (h : ∀ x ∈ fl, x.key ≠ f.key) : fidx (fl ++ [f]) = upd (fidx fl) f.key fl.length := by
  funext k
  unfold fidx upd
  rw [List.findIdx?_append]
  by_cases e : k = f.key
  · subst e
    have hn : fl.findIdx? (fun x => decide (x.key = f.key)) = none := by
      rw [List.findIdx?_eq_none_iff]
      intro x hx
      simpa using h x hx
    simp [hn, List.findIdx?_cons]
  · have e' : ¬ f.key = k := fun h => e h.symm
    simp [e, e', List.findIdx?_cons]

set_option maxHeartbeats 400000 in
theorem flows_add_nil (f : FlowM) (w : World) : Calls Try.prog 9 #[.pointer none, .agg f.cells.toArray] w fun e w' => e = .returned (.int .i64 1) ∧ Fr noB w w' := by
  go_enter Try.func9, Try.ntmps9
  go_upto_region 1 with (fail)
  have hcf : CellsAt (w.alloc (.cells f.cells.toArray 29)) w.heap.size 0 f.cells := by (repeat (first | assumption | exact cells_new _ _ _ (by simp) | refine CellsAt.alloc ?_ _ | refine CellsAt.drew ?_ | refine CellsAt.drewN ?_ _))
  have hck := key_of_flow hcf
  go_wp2_with (refine wpList_load_at rfl 25 _ rfl _ _ rfl (KeyM.cells _) (by (repeat (first | assumption | exact cells_new _ _ _ (by simp) | refine CellsAt.alloc ?_ _ | refine CellsAt.drew ?_ | refine CellsAt.drewN ?_ _))) _ Try.underlying25 rfl (by kernel_rfl) ?_)
  refine (flows_find_nil f.key _).mono ?_
  rintro e w2 ⟨rfl, hf2⟩
  unfold foundV
  have Hf2 := hide (((Fr.refl noB w).alloc (.cells f.cells.toArray 29)).tr hf2)
  clear hf2 hcf hck
  go_wp2_with (refine wpList_store_new rfl 29 _ _ rfl _ _ (FlowM.cells _) _ rfl rfl (by simp) (by kernel_rfl) rfl (by kernel_rfl) ?_)
  go_ret
  exact ⟨rfl, Hf2.out.alloc _⟩

set_option maxHeartbeats 1000000 in
theorem flows_add (w : World) (F : Nat → Prop) (g : Nat) (fl : List FlowM) (most : Int) (h : Tab w F g fl most) (f : FlowM) (hwf : f.wf) :
    Calls Try.prog 9 #[.pointer (some ⟨g, 0, none⟩), .agg f.cells.toArray] w (TabTo w F g (addF most fl f).l most (.int .i64 (addF most fl f).e)) := by
  have H := hide h
  have hgl := h.lt g h.here
  have hlen : fl.length ≤ 64 := by have := h.len; have := h.most64; omega
  have hm0 := h.most0; have hm64 := h.most64
  clear h
  go_enter Try.func9, Try.ntmps9
  go_upto_region 1 with (fail)
  have hcf : CellsAt (w.alloc (.cells f.cells.toArray 29)) w.heap.size 0 f.cells := by (repeat (first | assumption | exact cells_new _ _ _ (by simp) | refine CellsAt.alloc ?_ _ | refine CellsAt.drew ?_ | refine CellsAt.drewN ?_ _))
  have hck := key_of_flow hcf
  go_wp2_with (refine wpList_load_at rfl 25 _ rfl _ _ rfl (KeyM.cells _) (by (repeat (first | assumption | exact cells_new _ _ _ (by simp) | refine CellsAt.alloc ?_ _ | refine CellsAt.drew ?_ | refine CellsAt.drewN ?_ _))) _ Try.underlying25 rfl (by kernel_rfl) ?_)
  refine (flows_find _ F g fl most (H.out.frN ((Fr.refl noB w).alloc _)) f.key).mono ?_
  rintro e w2 ⟨rfl, hf2⟩
  unfold foundV
  have Hf2 := hide (((Fr.refl noB w).alloc (.cells f.cells.toArray 29)).tr hf2)
  have Hcf := hide (hcf.fr hf2 (fun h => h))
  have hw2 : w.heap.size < w2.heap.size := by have := hf2.size; simp at this; omega
  clear hf2 hcf hck
  have HA : Hid (addF most fl f = if (findF fl f.key).ok then ⟨1, fl⟩ else if most ≤ fl.length then ⟨6, fl⟩ else ⟨0, fl ++ [f]⟩) := hide rfl
  have HKn := hide (findF_key (fl := fl) (k := f.key))
  generalize findF fl f.key = x at *
  obtain ⟨xf, xb, xo⟩ := x
  simp only at HA HKn ⊢
  have same : ∀ w', Fr noB w w' → Tab w' (gr F w w') g fl most ∧ Fr F w w' := fun w' hw => by
    refine ⟨?_, hw.mono (fun _ _ h => h.elim)⟩
    obtain ⟨⟨s, mb, n, h1, h2, h3, h4, h5⟩, h6, h7, h8, h9, h10, h11, h12⟩ := H.out.frN hw
    exact ⟨⟨s, mb, n, h1, h2, h3, .inl h4, fun b hb => .inl (h5 b hb)⟩, .inl h6, fun b hb => by rcases hb with hb | hb; exact h7 b hb; exact hb.2, h8, h9, h10, h11, h12⟩
  have Same := hide same
  clear same
  cases xo with
  | true =>
    go_wp2_with (refine wpList_store_new rfl 29 _ _ rfl _ _ (FlowM.cells _) _ rfl rfl (by simp) (by kernel_rfl) rfl (by kernel_rfl) ?_)
    go_ret
    unfold TabTo
    rw [show addF most fl f = ⟨1, fl⟩ from HA.out]
    exact ⟨rfl, Same.out _ (Hf2.out.alloc _)⟩
  | false =>
    have HKn2 := hide (HKn.out rfl)
    clear HKn
    go_upto_region 4 with (refine wpList_store_new rfl 29 _ _ rfl _ _ (FlowM.cells _) _ rfl rfl (by simp) (by kernel_rfl) rfl (by kernel_rfl) ?_)
    refine wp_gen (fun W => Fr noB w2 W) ((Fr.refl _ _).alloc _) ?_
    intro w3 hf3
    have Hf3 := hide (Hf2.out.tr hf3)
    have Hcf3 := hide (Hcf.out.fr hf3 (fun h => h))
    have hw3 : w.heap.size < w3.heap.size := by have := hf3.size; omega
    clear hf3
    obtain ⟨⟨⟨sa, sl, sc⟩, mb, n, hblk, hown, hkm, hF1, hF2⟩, hF0, hlt, hkeys, hle, _, _, hwfs⟩ := H.out.frN Hf3.out
    have hsl : sl = fl.length := hown.1
    have hg1 : ∀ z : Grow w3, z.v.cell? ⟨g, 0, none⟩ = some (.slice sa sl sc) := fun z => (hblk.fr z.fr (fun h => h)).cell 0
    have hg2 : ∀ z : Grow w3, z.v.cell? ⟨g, 1, none⟩ = some (.map (some mb)) := fun z => (hblk.fr z.fr (fun h => h)).cell 1
    have hg3 : ∀ z : Grow w3, z.v.cell? ⟨g, 2, none⟩ = some (.int .i64 most) := fun z => (hblk.fr z.fr (fun h => h)).cell 2
    have Hblk := hide hblk; have Hown := hide hown; have Hkm := hide hkm; have Hsl := hide hsl; have HF1 := hide hF1; have HF2 := hide hF2; have HF0 := hide hF0; have Hkeys := hide hkeys; have Hwfs := hide hwfs; have Hlt := hide hlt; have Hle := hide hle
    clear hblk hown hkm hsl hF1 hF2 hF0 hkeys hwfs hlt hle
    by_cases hfull : most ≤ fl.length
    · have HE := hide (show addF most fl f = ⟨6, fl⟩ from by rw [HA.out]; simp [hfull])
      have g1 : decide (most ≤ (sl : Int)) = true := by have := Hsl.out; simp; omega
      refine wp_region_mix (fun W => ∃ z : Grow w3, W = z.v) (by kernel_rfl) (by kernel_rfl) (inGrow (Fr.refl _ _).drew) ?_
      repeat (first | (refine wpMix_skip rfl ?_; simp only [Act.put, List.setIfInBounds_toArray, List.set_cons_succ, List.set_cons_zero]) | (refine wpMix_calm rfl rfl (fun K hK => ?_); go_big_quiet_op; refine hK _ ?_; clear hK K))
      refine wpMix_nil ?_
      go_wp2_with fail
      go_ret
      unfold TabTo
      rw [HE.out]
      exact ⟨rfl, Same.out _ Hf3.out.drew⟩
    · have HE := hide (show addF most fl f = ⟨0, fl ++ [f]⟩ from by rw [HA.out]; simp [hfull])
      have g1 : decide (most ≤ (sl : Int)) = false := by have := Hsl.out; simp; omega
      refine wp_region_mix (fun W => ∃ z : Grow w3, W = z.v) (by kernel_rfl) (by kernel_rfl) (inGrow (Fr.refl _ _).drew) ?_
      repeat (first | (refine wpMix_skip rfl ?_; simp only [Act.put, List.setIfInBounds_toArray, List.set_cons_succ, List.set_cons_zero]) | (refine wpMix_calm rfl rfl (fun K hK => ?_); go_big_quiet_op; refine hK _ ?_; clear hK K))
      refine wpMix_nil ?_
      go_upto_region 6 with (fail)
      have hck := key_of_flow Hcf3.out
      refine wp_region_mixT 11 (fun W => ∃ z : Grow w3, W = z.v) (by kernel_rfl) (by kernel_rfl) (inGrow (Fr.refl _ _).drew.drew) ?_
      simp only [List.take_succ_cons, List.take_zero, List.drop_succ_cons, List.drop_zero]
      iterate 5 (first | (refine wpMix_skip rfl ?_; simp only [Act.put, List.setIfInBounds_toArray, List.set_cons_succ, List.set_cons_zero]) | (refine wpMix_calm rfl rfl (fun K hK => ?_); go_big_quiet_op; refine hK _ ?_; clear hK K))
      (refine wpMix_load_atw rfl 25 (.tmp 37) rfl _ _ rfl (KeyM.cells _) (fun W hW => by obtain ⟨z, rfl⟩ := hW; exact CellsAt.fr (by (repeat (first | assumption | exact cells_new _ _ _ (by simp) | refine CellsAt.alloc ?_ _ | refine CellsAt.drew ?_ | refine CellsAt.drewN ?_ _))) z.fr (fun h => h)) _ Try.underlying25 rfl (by kernel_rfl) ?_; simp only [Act.put, List.setIfInBounds_toArray, List.set_cons_succ, List.set_cons_zero])
      repeat (first | (refine wpMix_skip rfl ?_; simp only [Act.put, List.setIfInBounds_toArray, List.set_cons_succ, List.set_cons_zero]) | (refine wpMix_calm rfl rfl (fun K hK => ?_); go_big_quiet_op; refine hK _ ?_; clear hK K))
      refine wpMix_nil ?_
      have hno : fidx fl f.key = none := fidx_none (by rw [List.findIdx?_eq_none_iff]; intro x hx; simpa using HKn2.out x hx)
      refine wpList_kupdate rfl (.tmp 36) (.tmp 38) (.tmp 43) rfl key_fit Try.underlying56 f.key (sl : Int) rfl rfl rfl (show KMap KeyM.cells w3.drew.drew mb n (fidx fl) from Hkm.out) ?_
      intro w4 hkm4 hf4 hsz4
      rw [hno, Hsl.out, ← fidx_app HKn2.out] at hkm4
      simp only [Option.isSome_none, Bool.false_eq_true, if_false] at hkm4
      have hf4 : Fr (oneB mb) w3 w4 := ((Fr.refl (oneB mb) w3).drew.drew).tr hf4
      have nb1 := blk_ne_map Hblk.out Hkm.out
      have nb2 := own_ne_map Hown.out Hkm.out
      have nb3 := blk_ne_own Hblk.out Hown.out (by decide)
      have hblk4 := Hblk.out.fr hf4 nb1
      have hown4 := Hown.out.fr hf4 (fun b hb e => nb2 (by unfold oneB at e; subst e; exact hb))
      have hcf4 := Hcf3.out.fr hf4 (fun e => by unfold oneB at e; have := H.out.lt mb HF1.out; omega)
      have HF4 := hide (show Fr F w w4 from Fr.trans Hf3.out hf4 (fun _ _ h => h.elim) (fun b _ hb => by unfold oneB at hb; subst hb; exact HF1.out))
      have hsz4 : w4.heap.size = w3.heap.size := hsz4
      have hc8 : ∀ W, (∃ z : GrowS (ownB ⟨sa, sl, sc⟩) w4, W = z.v) → CellsAt W w.heap.size 0 f.cells := fun W hW => by
        obtain ⟨z, rfl⟩ := hW
        exact hcf4.fr z.fr (fun hb => by have := H.out.lt _ (HF2.out _ hb); omega)
      have hg1' : ∀ z : GrowS (ownB ⟨sa, sl, sc⟩) w4, z.v.cell? ⟨g, 0, none⟩ = some (.slice sa sl sc) := fun z => (hblk4.fr z.fr nb3).cell 0
      have Hblk4 := hide hblk4; have Hown4 := hide hown4; have Hkm4 := hide hkm4; have Hc8 := hide hc8; have Nb2 := hide nb2; have Nb3 := hide nb3
      clear hblk4 hown4 hkm4 hcf4 hf4 hno hck hc8 nb1 nb2 nb3 hg1 hg2 hg3
      simp only [Act.put, List.setIfInBounds_toArray, List.set_cons_succ, List.set_cons_zero]
      go_upto_region 7 with (fail)
      refine wp_region_mixT 10 (fun W => ∃ z : GrowS (ownB ⟨sa, sl, sc⟩) w4, W = z.v) (by kernel_rfl) (by kernel_rfl) (inGrowS (Fr.refl _ _).drew) ?_
      simp only [List.take_succ_cons, List.take_zero, List.drop_succ_cons, List.drop_zero]
      iterate 5 (first | (refine wpMix_skip rfl ?_; simp only [Act.put, List.setIfInBounds_toArray, List.set_cons_succ, List.set_cons_zero]) | (refine wpMix_calm rfl rfl (fun K hK => ?_); go_big_quiet_op; refine hK _ ?_; clear hK K))
      refine wpMix_load_atw rfl 29 (.tmp 3) rfl _ _ rfl (FlowM.cells f) Hc8.out _ Try.underlying29 rfl (by kernel_rfl) ?_
      simp only [Act.put, List.setIfInBounds_toArray, List.set_cons_succ, List.set_cons_zero]
      refine wpMix_buildSlice rfl 22 1 _ rfl #[(0, .agg f.cells.toArray)] (by kernel_rfl) Try.underlying22 (.agg zeroF.cells.toArray) 14 (by kernel_rfl) f.cells.toArray (by decide) (by decide) (by kernel_rfl) (inGrowS ((Fr.refl _ _).drew.alloc _)) ?_
      simp only [Act.put, List.setIfInBounds_toArray, List.set_cons_succ, List.set_cons_zero]
      have hone := slof_one (w := w4.drew) (ok := FlowM.wf) (x := f) FlowM.length 29 hwf
      have hown5 : OwnL (w4.drew.alloc (.cells f.cells.toArray 29)) 29 14 FlowM.cells ⟨sa, sl, sc⟩ fl := Hown4.out.fr ((Fr.refl noB _).drew.alloc _) (fun _ _ h => h)
      refine wpMix_append_rows (N := 14) (cells := FlowM.cells) (s := ⟨sa, sl, sc⟩) (xs := fl) (q := ⟨some ⟨w4.drew.heap.size, 0, none⟩, 1, 1⟩) (ys := [f]) (ok := FlowM.wf) rfl (.tmp 48) (.tmp 50) 22 rfl Try.underlying22 _ 120 flow_info (by kernel_rfl) (by decide) FlowM.length FlowM.mem
        rfl hown5 rfl hone (fun h => by simp at h) (by simp [maxLen]; omega) (by simp; omega) ?_
      intro s2 w5 hown6 hf5 hor
      have hf45 : Fr (ownB ⟨sa, sl, sc⟩) w4 w5 := (((Fr.refl _ _).drew).alloc _).tr hf5
      refine ⟨inGrowS hf45, ?_⟩
      have hbl5 := Hblk4.out.fr hf45 Nb3.out
      have hkm5 := Hkm4.out.fr hf45 Nb2.out
      have hc0 : w5.cell? ⟨g, 0, none⟩ = some (.slice sa sl sc) := hbl5.cell 0
      have hz0 : w5.frozen? ⟨g, 0, none⟩ = false := hbl5.free 0
      have hs2 : ∀ b, ownB s2 b → ownB ⟨sa, sl, sc⟩ b ∨ w4.heap.size ≤ b := by
        rintro b ⟨x, hx, rfl⟩
        rcases hor with ⟨e1, _⟩ | ⟨g', e1, hg, _⟩
        · exact .inl ⟨x, by rw [← e1]; exact hx, rfl⟩
        · rw [e1] at hx
          simp only [Option.some.injEq] at hx
          subst hx
          simp at hg
          exact .inr (by simp only; omega)
      have nb4 := blk_ne_own hbl5 hown6 (by decide)
      have Hbl5 := hide hbl5; have Hkm5 := hide hkm5; have Hf45 := hide hf45; have Hown6 := hide hown6; have Hs2 := hide hs2; have Nb4 := hide nb4
      have hne5 := hide (show g ≠ mb from blk_ne_map hbl5 hkm5)
      have hs25 : Hid (w4.heap.size ≤ w5.heap.size) := hide hf45.size
      clear hbl5 hkm5 hf45 hown6 hs2 nb4 hor hf5 hone hown5 hg1'
      simp only [Act.put, List.setIfInBounds_toArray, List.set_cons_succ, List.set_cons_zero]
      repeat (first | (refine wpMix_skip rfl ?_; simp only [Act.put, List.setIfInBounds_toArray, List.set_cons_succ, List.set_cons_zero]) | (refine wpMix_calm rfl rfl (fun K hK => ?_); go_big_quiet_op; refine hK _ ?_; clear hK K))
      refine wpMix_nil ?_
      go_wp2_with fail
      go_ret
      unfold TabTo
      rw [HE.out]
      have hset := Hbl5.out.set 0 (.slice s2.a s2.len s2.cap)
      have hfs : Fr (oneB g) w5 (w5.setCell ⟨g, 0, none⟩ (.slice s2.a s2.len s2.cap)) := (Fr.refl (oneB g) _).setCell (p := ⟨g, 0, none⟩) (.inr rfl) _
      have hFR : Fr F w (w5.setCell ⟨g, 0, none⟩ (.slice s2.a s2.len s2.cap)) := by
        refine Fr.trans (Fr.trans HF4.out Hf45.out (fun _ _ h => h) (fun b _ hb => HF2.out b hb)) hfs (fun _ _ h => h) (fun b _ hb => ?_)
        unfold oneB at hb; subst hb; exact HF0.out
      refine ⟨rfl, ⟨⟨s2, mb, n + 1, hset, Hown6.out.fr hfs (fun b hb e => ?_), Hkm5.out.fr hfs (fun e => hne5.out e.symm), .inl HF1.out, fun b hb => ?_⟩, .inl HF0.out, fun b hb => ?_, ?_, ?_, hm0, hm64, ?_⟩, hFR⟩
      · unfold oneB at e; subst e; exact Nb4.out hb
      · rcases Hs2.out b hb with h | h
        · exact .inl (HF2.out b h)
        · refine .inr ⟨by omega, ?_⟩
          have := Hown6.out.lt b hb
          simpa using this
      · rcases hb with hb | hb
        · have := H.out.lt b hb; have := hFR.size; omega
        · exact hb.2
      · unfold Keys
        rw [List.map_append, List.nodup_append]
        refine ⟨Hkeys.out, by simp, fun a ha c hc => ?_⟩
        obtain ⟨x, hx, rfl⟩ := List.mem_map.1 ha
        simp only [List.map_cons, List.map_nil, List.mem_singleton] at hc
        subst hc
        exact HKn2.out x hx
      · simp; omega
      · intro x hx
        simp only [List.mem_append, List.mem_singleton] at hx
        rcases hx with hx | rfl
        · exact Hwfs.out x hx
        · exact hwf
end Go.Proofs.Ytjfjpibjjliagaa
