/- The document's answer to chapter 17: Add, Expire. -/
import Derived.Test.YtjfjpibjjliagaaFlowDoc2
import Derived.Test.YtjfjpibjjliagaaFlowExp
namespace Go.Proofs.Ytjfjpibjjliagaa
open Go.RowKit Go.BigFrame
set_option linter.unusedSimpArgs false
set_option linter.unusedVariables false
attribute [local irreducible] wpMix wpAnyG

set_option maxHeartbeats 1000000 in
theorem doc_add (w : World) (F : Nat → Prop) (g : Nat) (fl : List FlowM) (most : Int) (h : Doc w F g fl most) (f : FlowM) (hwf : f.wf) :
    Calls Try.prog 22 #[.pointer (some ⟨g, 0, none⟩), .agg f.cells.toArray] w (DocTo w F g (addF most fl f).l most (.int .i64 (addF most fl f).e)) := by
  have H := hide h
  have hgl := h.lt g h.here
  have hlen : fl.length ≤ 64 := by have := h.len; have := h.most64; omega
  have hm0 := h.most0; have hm64 := h.most64
  clear h
  go_enter Try.func22, Try.ntmps22
  go_upto_region 1 with (fail)
  have hcf : CellsAt (w.alloc (.cells f.cells.toArray 29)) w.heap.size 0 f.cells := by (repeat (first | assumption | exact cells_new _ _ _ (by simp) | refine CellsAt.alloc ?_ _ | refine CellsAt.drew ?_ | refine CellsAt.drewN ?_ _))
  have hck := key_of_flow hcf
  go_wp2_with (refine wpList_load_at rfl 25 _ rfl _ _ rfl (KeyM.cells _) (by (repeat (first | assumption | exact cells_new _ _ _ (by simp) | refine CellsAt.alloc ?_ _ | refine CellsAt.drew ?_ | refine CellsAt.drewN ?_ _))) _ Try.underlying25 rfl (by kernel_rfl) ?_)
  refine (doc_find _ F g fl most (H.out.frN ((Fr.refl noB w).alloc _)) f.key).mono ?_
  rintro e w2 ⟨rfl, hf2⟩
  unfold foundV
  have Hf2 := hide (((Fr.refl noB w).alloc (.cells f.cells.toArray 29)).tr hf2)
  have Hcf := hide (hcf.fr hf2 (fun h => h))
  have hw2 : w.heap.size < w2.heap.size := by have := hf2.size; simp at this; omega
  clear hf2 hcf hck
  have HA : Hid (addF most fl f = if (findF fl f.key).ok then ⟨1, fl⟩ else if most ≤ fl.length then ⟨6, fl⟩ else ⟨0, fl ++ [f]⟩) := hide rfl
  generalize findF fl f.key = x at *
  obtain ⟨xf, xb, xo⟩ := x
  simp only at HA ⊢
  cases xo with
  | true =>
    go_wp2_with (refine wpList_store_new rfl 29 _ _ rfl _ _ (FlowM.cells _) _ rfl rfl (by simp) (by kernel_rfl) rfl (by kernel_rfl) ?_)
    go_ret
    unfold DocTo
    rw [show addF most fl f = ⟨1, fl⟩ from HA.out]
    exact ⟨rfl, H.out.same (Hf2.out.alloc _)⟩
  | false =>
    go_upto_region 4 with (refine wpList_store_new rfl 29 _ _ rfl _ _ (FlowM.cells _) _ rfl rfl (by simp) (by kernel_rfl) rfl (by kernel_rfl) ?_)
    refine wp_gen (fun W => Fr noB w2 W) ((Fr.refl _ _).alloc _) ?_
    intro w3 hf3
    have Hf3 := hide (Hf2.out.tr hf3)
    have Hcf3 := hide (Hcf.out.fr hf3 (fun h => h))
    have hw3 : w.heap.size < w3.heap.size := by have := hf3.size; omega
    clear hf3
    obtain ⟨⟨⟨sa, sl, sc⟩, hblk, hown, hF2⟩, hF0, hlt, hle, _, _, hwfs⟩ := H.out.frN Hf3.out
    have hsl : sl = fl.length := hown.1
    have hg1 : ∀ z : Grow w3, z.v.cell? ⟨g, 0, none⟩ = some (.slice sa sl sc) := fun z => (hblk.fr z.fr (fun h => h)).cell 0
    have hg3 : ∀ z : Grow w3, z.v.cell? ⟨g, 1, none⟩ = some (.int .i64 most) := fun z => (hblk.fr z.fr (fun h => h)).cell 1
    have Hq := hide (hown.slof FlowM.length hwfs); have Hnc := hide hown.nilcap
    have Hblk := hide hblk; have Hown := hide hown; have Hsl := hide hsl; have HF2 := hide hF2; have HF0 := hide hF0; have Hwfs := hide hwfs; have Hle := hide hle
    clear hblk hown hsl hF2 hF0 hwfs hlt hle
    by_cases hfull : most ≤ fl.length
    · have HE := hide (show addF most fl f = ⟨6, fl⟩ from by rw [HA.out]; simp [hfull])
      have g1 : decide (most ≤ (sl : Int)) = true := by have := Hsl.out; simp; omega
      refine wp_region_mix (fun W => ∃ z : Grow w3, W = z.v) (by kernel_rfl) (by kernel_rfl) (inGrow (Fr.refl _ _).drew) ?_
      repeat (first | (refine wpMix_skip rfl ?_; simp only [Act.put, List.setIfInBounds_toArray, List.set_cons_succ, List.set_cons_zero]) | (refine wpMix_calm rfl rfl (fun K hK => ?_); go_big_quiet_op; refine hK _ ?_; clear hK K))
      refine wpMix_nil ?_
      go_wp2_with fail
      go_ret
      unfold DocTo
      rw [HE.out]
      exact ⟨rfl, H.out.same Hf3.out.drew⟩
    · have HE := hide (show addF most fl f = ⟨0, fl ++ [f]⟩ from by rw [HA.out]; simp [hfull])
      have g1 : decide (most ≤ (sl : Int)) = false := by have := Hsl.out; simp; omega
      refine wp_region_mix (fun W => ∃ z : Grow w3, W = z.v) (by kernel_rfl) (by kernel_rfl) (inGrow (Fr.refl _ _).drew) ?_
      repeat (first | (refine wpMix_skip rfl ?_; simp only [Act.put, List.setIfInBounds_toArray, List.set_cons_succ, List.set_cons_zero]) | (refine wpMix_calm rfl rfl (fun K hK => ?_); go_big_quiet_op; refine hK _ ?_; clear hK K))
      refine wpMix_nil ?_
      go_upto_region 6 with (fail)
      refine any_startT (fun W => ∃ z : Grow w3, W = z.v) 12 rfl (by kernel_rfl) (by kernel_rfl) (inGrow (Fr.refl _ _).drew.drew) ?_
      intro L hL hleaf
      have hS : ∃ z : Grow w3, w3.drew.drew = z.v := inGrow (Fr.refl _ _).drew.drew
      (refine any_calm 0 (by assumption) (by simp only [List.getElem?_toArray, List.getElem?_cons_succ, List.getElem?_cons_zero]; exact rfl) (by kernel_rfl) (by kernel_rfl) (by kernel_rfl) (by kernel_rfl) (by assumption) (by rfl) (by rfl) (fun K hK => ?_); go_big_quiet_op; refine hK _ ?_; clear hK K)
      (refine any_calm 2 (by assumption) (by simp only [List.getElem?_toArray, List.getElem?_cons_succ, List.getElem?_cons_zero]; exact rfl) (by kernel_rfl) (by kernel_rfl) (by kernel_rfl) (by kernel_rfl) (by assumption) (by rfl) (by rfl) (fun K hK => ?_); go_big_quiet_op; refine hK _ ?_; clear hK K)
      (refine any_calm 3 (by assumption) (by simp only [List.getElem?_toArray, List.getElem?_cons_succ, List.getElem?_cons_zero]; exact rfl) (by kernel_rfl) (by kernel_rfl) (by kernel_rfl) (by kernel_rfl) (by assumption) (by rfl) (by rfl) (fun K hK => ?_); go_big_quiet_op; refine hK _ ?_; clear hK K)
      (refine any_calm 4 (by assumption) (by simp only [List.getElem?_toArray, List.getElem?_cons_succ, List.getElem?_cons_zero]; exact rfl) (by kernel_rfl) (by kernel_rfl) (by kernel_rfl) (by kernel_rfl) (by assumption) (by rfl) (by rfl) (fun K hK => ?_); go_big_quiet_op; refine hK _ ?_; clear hK K)
      (refine any_calm 5 (by assumption) (by simp only [List.getElem?_toArray, List.getElem?_cons_succ, List.getElem?_cons_zero]; exact rfl) (by kernel_rfl) (by kernel_rfl) (by kernel_rfl) (by kernel_rfl) (by assumption) (by rfl) (by rfl) (fun K hK => ?_); go_big_quiet_op; refine hK _ ?_; clear hK K)
      refine any_load_at 7 hL (by simp only [List.getElem?_toArray, List.getElem?_cons_succ, List.getElem?_cons_zero]; exact rfl) (by kernel_rfl) (by kernel_rfl) (by kernel_rfl) (by kernel_rfl) hS (by rfl) 29 (.tmp 3) (by rfl) w.heap.size 0 (by rfl) f.cells ?hc _ Try.underlying29 rfl (by kernel_rfl) ?_
      case hc => rintro _ ⟨z, rfl⟩; exact Hcf3.out.fr z.fr (fun h => h)
      simp only [Act.put, List.setIfInBounds_toArray, List.set_cons_succ, List.set_cons_zero]
      refine any_app2 (w0 := w3) (N := 14) (cells := FlowM.cells) (ok := FlowM.wf) (q := ⟨sa, sl, sc⟩) (ys := fl) 1 6 8 9 30 35 37 38 34 36 rfl rfl rfl rfl rfl rfl rfl rfl rfl rfl rfl rfl rfl rfl rfl rfl
        (by kernel_rfl) (by kernel_rfl) (by kernel_rfl) (by kernel_rfl) (by kernel_rfl) (by kernel_rfl) (by decide) (by simp) (by simp) (by simp) Try.underlying22 _ 120 flow_info (by kernel_rfl) (by decide) (by decide) FlowM.length FlowM.mem
        f hwf (by kernel_rfl) rfl rfl (fun W hW => SlOf.fr Hq.out hW (fun _ _ h => h) (fun _ h => h)) (fun h => by have := Hnc.out h; simp only [SlV.mk.injEq] at this; exact this.2.2) (by omega) (by simp [maxLen]; omega) (Fr.refl _ _).drew.drew ?_
      intro v0 v1 v2 s2 w9 hn2 hf9
      simp only [Act.put, List.setIfInBounds_toArray, List.set_cons_succ, List.set_cons_zero]
      have hS : ∃ z : Grow w3, w9 = z.v := inGrow hf9
      (refine any_calm 10 (by assumption) (by simp only [List.getElem?_toArray, List.getElem?_cons_succ, List.getElem?_cons_zero]; exact rfl) (by kernel_rfl) (by kernel_rfl) (by kernel_rfl) (by kernel_rfl) (by assumption) (by rfl) (by rfl) (fun K hK => ?_); go_big_quiet_op; refine hK _ ?_; clear hK K)
      (refine any_calm 11 (by assumption) (by simp only [List.getElem?_toArray, List.getElem?_cons_succ, List.getElem?_cons_zero]; exact rfl) (by kernel_rfl) (by kernel_rfl) (by kernel_rfl) (by kernel_rfl) (by assumption) (by rfl) (by rfl) (fun K hK => ?_); go_big_quiet_op; refine hK _ ?_; clear hK K)
      refine any_leaf (hleaf _ _ _ (by kernel_rfl) (by kernel_rfl) ?_)
      simp only [List.drop_succ_cons, List.drop_zero]
      have hb9 := Hblk.out.fr hf9 (fun h => h)
      have hc0 : w9.cell? ⟨g, 0, none⟩ = some (.slice sa sl sc) := hb9.cell 0
      have hz0 : w9.frozen? ⟨g, 0, none⟩ = false := hb9.free 0
      have Hn2 := hide hn2; have Hf9 := hide hf9; have Hb9 := hide hb9
      have Nb := hide (blk_ne_own hb9 hn2.1 (by decide))
      clear hn2 hf9 hb9 hS hL hleaf hg1 hg3
      go_wp2_with fail
      go_ret
      unfold DocTo
      rw [HE.out]
      have hset := Hb9.out.set 0 (.slice s2.a s2.len s2.cap)
      have hfs : Fr (oneB g) w9 (w9.setCell ⟨g, 0, none⟩ (.slice s2.a s2.len s2.cap)) := (Fr.refl (oneB g) _).setCell (p := ⟨g, 0, none⟩) (.inr rfl) _
      have hFR : Fr F w (w9.setCell ⟨g, 0, none⟩ (.slice s2.a s2.len s2.cap)) := by
        refine Fr.trans (Hf3.out.tr Hf9.out) hfs (fun _ _ h => h.elim) (fun b _ hb => ?_)
        unfold oneB at hb; subst hb; exact HF0.out
      refine ⟨rfl, ⟨⟨s2, hset, Hn2.out.1.fr hfs (fun b hb e => ?_), fun b hb => ?_⟩, .inl HF0.out, fun b hb => ?_, ?_, hm0, hm64, ?_⟩, hFR⟩
      · unfold oneB at e; subst e; exact Nb.out hb
      · refine .inr ⟨by have := Hn2.out.2 b hb; omega, ?_⟩
        have := Hn2.out.1.lt b hb
        simpa using this
      · rcases hb with hb | hb
        · have := H.out.lt b hb; have := hFR.size; omega
        · exact hb.2
      · simp; omega
      · intro x hx
        simp only [List.mem_append, List.mem_singleton] at hx
        rcases hx with hx | rfl
        · exact Hwfs.out x hx
        · exact hwf

def DocExpTo (w : World) (F : Nat → Prop) (g : Nat) (fl : List FlowM) (now most : Int) (e : Ending) (w' : World) : Prop :=
  ∃ s : SlV, e = .returned (.slice s.a s.len s.cap) ∧ NewL w w' 29 14 FlowM.cells s (goneF now fl) ∧ Doc w' (gr F w w') g (stayF now fl) most ∧ Fr F w w'

set_option maxHeartbeats 1000000 in
theorem doc_expire (w : World) (F : Nat → Prop) (g : Nat) (fl : List FlowM) (most : Int) (h : Doc w F g fl most) (now : Int) :
    Calls Try.prog 24 #[.pointer (some ⟨g, 0, none⟩), .int .i64 now] w (DocExpTo w F g fl now most) := by
  have H := hide h
  have hgl := h.lt g h.here
  have hlen : fl.length ≤ 64 := by have := h.len; have := h.most64; omega
  obtain ⟨⟨⟨sa, sl, sc⟩, hblk, hown, hF2⟩, hF0, hlt, hle, hm0, hm64, hwfs⟩ := h
  have hsl : sl = fl.length := hown.1
  have Hblk := hide hblk; have Hown := hide hown; have Hsl := hide hsl; have HF2 := hide hF2; have HF0 := hide hF0; have Hwfs := hide hwfs; have Hlt := hide hlt; have Hle := hide hle
  clear hblk hown hsl hF2 hF0 hwfs hlt hle
  have hmax : sl ≤ 64 := by rw [Hsl.out]; exact hlen
  go_enter Try.func24, Try.ntmps24
  go_wp2_with fail
  go_loopw [5, 6, 7] (ExpAt w fl now) (fun _ _ i _ => sl - (intOf i).toNat)
  case atStart => exact ⟨0, ⟨none, 0, 0⟩, ⟨none, 0, 0⟩, Nat.zero_le _, rfl, rfl, rfl, NewL.nil _ _ _ _ _, NewL.nil _ _ _ _ _, fun b ⟨_, h, _⟩ => by simp at h, Fr.refl _ _⟩
  case round =>
    obtain ⟨k, s1, s2, hk, rfl, rfl, rfl, hn1, hn2, hdis, hf⟩ := hrel
    have HN1 := hide hn1; have HN2 := hide hn2; have HDis := hide hdis; have Hf := hide hf
    have hb := Hblk.out.fr hf (fun h => h)
    have c0 : wr.cell? ⟨g, 0, none⟩ = some (.slice sa sl sc) := hb.cell 0
    have hgr : g < wr.heap.size := hb.lt
    have Hb := hide hb
    clear hn1 hn2 hdis hf hb
    by_cases hlt : k < sl
    · have hk2 : k < fl.length := by have := Hsl.out; omega
      have hx : fl[k]? = some fl[k] := List.getElem?_eq_getElem hk2
      have hwfk : fl[k].wf := Hwfs.out _ (List.getElem_mem hk2)
      obtain ⟨gs, rfl, _, hcx, _⟩ := own_at (Hown.out.fr Hf.out (fun _ _ h => h)) FlowM.length hx
      have hgt := hide (gone_take (now := now) hx); have hst := hide (stay_take (now := now) hx)
      have hl1 : (goneF now (fl.take k)).length ≤ 64 := Nat.le_trans (List.length_filter_le _ _) (by rw [List.length_take]; omega)
      have hl2 : (stayF now (fl.take k)).length ≤ 64 := Nat.le_trans (List.length_filter_le _ _) (by rw [List.length_take]; omega)
      generalize fl[k] = f at *
      have Hx := hide hx; have Hwfk := hide hwfk; have Hcx := hide hcx
      clear hx hk hwfk hcx
      have hmul : ((k : Int) * 14).toNat = k * 14 := by omega
      have hcf : CellsAt wr gs (k * 14) f.cells := Hcx.out
      have c6 : wr.cell? ⟨gs, k * 14 + 6, none⟩ = some (.int .i64 f.due) := hcf 6 _ rfl
      cases hd : dueB now f with
      | true =>
        have hd' : decide (f.due ≤ now) = true := hd
        have Hgt := hide hgt.out; have Hst := hide hst.out
        rw [hd] at Hgt Hst
        clear hd hgt hst
        have Hone := hide (slof_one (w := wr) (ok := FlowM.wf) (x := f) FlowM.length 29 Hwfk.out)
        go_wp2_with (first | (refine wpList_load_at rfl 29 _ rfl _ _ rfl (FlowM.cells _) (by (repeat (first | assumption | exact cells_new _ _ _ (by simp) | refine CellsAt.alloc ?_ _ | refine CellsAt.drew ?_ | refine CellsAt.drewN ?_ _))) _ Try.underlying29 rfl (by kernel_rfl) ?_) | (refine wpList_buildSlice rfl 22 1 _ rfl #[(0, .agg f.cells.toArray)] (by kernel_rfl) Try.underlying22 (.agg zeroF.cells.toArray) 14 (by kernel_rfl) f.cells.toArray (by decide) (by decide) (by kernel_rfl) ?_) | (refine wpList_append_newD (w0 := w) (N := 14) (cells := FlowM.cells) (xs := goneF now (fl.take k)) (s := s1) (q := ⟨some ⟨wr.heap.size, 0, none⟩, 1, 1⟩) (ys := [f]) (ok := FlowM.wf) rfl (.tmp 27) (.tmp 35) 22 rfl Try.underlying22 _ 120 flow_info (by kernel_rfl) (by decide) FlowM.length FlowM.mem rfl (HN1.out.fr ((Fr.refl _ _).alloc _)) (Hf.out.alloc _) rfl Hone.out (fun h => by simp at h) (by simp [maxLen]; omega) (by simp; omega) ?_; intro s3 v1 hn3 hf3 hf4 hbs; have HN3 := hide hn3; have HF3 := hide hf3; have HF4 := hide hf4; have HBs := hide hbs; clear hn3 hf3 hf4 hbs))
        go_roundw
        case rel =>
          refine ⟨k + 1, s3, s2, by omega, by go_num, rfl, rfl, by rw [Hgt.out]; exact HN3.out, ?_, ?_, HF3.out⟩
          · rw [Hst.out]
            simp only [if_true, List.append_nil]
            refine (HN2.out.fr ((Fr.refl noB _).alloc (.cells f.cells.toArray 29))).frS HF4.out (fun b hb h => HDis.out b h hb)
          · intro b hb hb2
            rcases HBs.out b hb with h | h
            · exact HDis.out b h hb2
            · have := HN2.out.1.lt b hb2; simp at h; omega
        case measure => simp [intOf]; omega
      | false =>
        have hd' : decide (f.due ≤ now) = false := hd
        have Hgt := hide hgt.out; have Hst := hide hst.out
        rw [hd] at Hgt Hst
        clear hd hgt hst
        have Hone := hide (slof_one (w := wr) (ok := FlowM.wf) (x := f) FlowM.length 29 Hwfk.out)
        go_wp2_with (first | (refine wpList_load_at rfl 29 _ rfl _ _ rfl (FlowM.cells _) (by (repeat (first | assumption | exact cells_new _ _ _ (by simp) | refine CellsAt.alloc ?_ _ | refine CellsAt.drew ?_ | refine CellsAt.drewN ?_ _))) _ Try.underlying29 rfl (by kernel_rfl) ?_) | (refine wpList_buildSlice rfl 22 1 _ rfl #[(0, .agg f.cells.toArray)] (by kernel_rfl) Try.underlying22 (.agg zeroF.cells.toArray) 14 (by kernel_rfl) f.cells.toArray (by decide) (by decide) (by kernel_rfl) ?_) | (refine wpList_append_newD (w0 := w) (N := 14) (cells := FlowM.cells) (xs := stayF now (fl.take k)) (s := s2) (q := ⟨some ⟨wr.heap.size, 0, none⟩, 1, 1⟩) (ys := [f]) (ok := FlowM.wf) rfl (.tmp 37) (.tmp 45) 22 rfl Try.underlying22 _ 120 flow_info (by kernel_rfl) (by decide) FlowM.length FlowM.mem rfl (HN2.out.fr ((Fr.refl _ _).alloc _)) (Hf.out.alloc _) rfl Hone.out (fun h => by simp at h) (by simp [maxLen]; omega) (by simp; omega) ?_; intro s3 v1 hn3 hf3 hf4 hbs; have HN3 := hide hn3; have HF3 := hide hf3; have HF4 := hide hf4; have HBs := hide hbs; clear hn3 hf3 hf4 hbs))
        go_roundw
        case rel =>
          refine ⟨k + 1, s1, s3, by omega, by go_num, rfl, rfl, ?_, by rw [Hst.out]; exact HN3.out, ?_, HF3.out⟩
          · rw [Hgt.out]
            simp only [Bool.false_eq_true, if_false, List.append_nil]
            refine (HN1.out.fr ((Fr.refl noB _).alloc (.cells f.cells.toArray 29))).frS HF4.out (fun b hb h => HDis.out b hb h)
          · intro b hb hb2
            rcases HBs.out b hb2 with h | h
            · exact HDis.out b hb h
            · have := HN1.out.1.lt b hb; simp at h; omega
        case measure => simp [intOf]; omega
    · have hkl : k = fl.length := by have := Hsl.out; omega
      have htk : fl.take k = fl := by rw [hkl, List.take_length]
      rw [htk] at HN1 HN2
      clear htk hkl
      have z0 : wr.frozen? ⟨g, 0, none⟩ = false := Hb.out.free 0
      have nb3 := hide (blk_ne_own Hb.out HN2.out.1 (by decide))
      have nb5 := hide (blk_ne_own Hb.out HN1.out.1 (by decide))
      have Hsw := hide (show ∀ f ∈ stayF now fl, f.wf from fun f hf => Hwfs.out f (List.mem_filter.1 hf).1)
      have Hsm := hide (show ((stayF now fl).length : Int) ≤ most from by have := Hle.out; have := List.length_filter_le (fun f => !dueB now f) fl; unfold stayF; omega)
      go_wp2_with fail
      go_ret
      have hfs : Fr (oneB g) wr (wr.setCell ⟨g, 0, none⟩ (.slice s2.a s2.len s2.cap)) := (Fr.refl (oneB g) _).setCell (p := ⟨g, 0, none⟩) (.inr rfl) _
      have hFR : Fr F w (wr.setCell ⟨g, 0, none⟩ (.slice s2.a s2.len s2.cap)) := by
        refine Fr.trans Hf.out hfs (fun _ _ h => h.elim) (fun b _ hb => ?_)
        unfold oneB at hb; subst hb; exact HF0.out
      have HN21 := HN2.out.frS hfs (fun b hb e => by unfold oneB at e; subst e; exact nb3.out hb)
      refine ⟨s1, rfl, HN1.out.frS hfs (fun b hb e => by unfold oneB at e; subst e; exact nb5.out hb), ⟨⟨s2, Hb.out.set 0 _, HN21.1, fun b hb => .inr ⟨HN21.2 b hb, HN21.1.lt b hb⟩⟩, .inl HF0.out, fun b hb => ?_, Hsm.out, hm0, hm64, Hsw.out⟩, hFR⟩
      rcases hb with hb | hb
      · have := Hlt.out b hb; have := hFR.size; omega
      · exact hb.2
end Go.Proofs.Ytjfjpibjjliagaa
