/- The code's Dir and the document's, side by side; the helper act of chapter 10's laws. -/
import Derived.Test.YtgjabgneapdbiaaDirDoc
import Derived.Test.YtgjabgneapdbiaaTrieDocDel
namespace Go.Proofs.Ytgjabgneapdbiaa
open Go.RowKit Go.BigFrame
set_option linter.unusedSimpArgs false
set_option linter.unusedVariables false
attribute [local irreducible] wpMix wpAnyG

theorem DirRep.trie {w : World} {D : Nat → Prop} {g m nb : Nat} {most : Int} {l : List EntM} (h : DirRep w D g most l m nb) : SortedE l ∧ ∀ x ∈ l, okP x.p := by
  obtain ⟨⟨Ft, C, gt, h1, _⟩, _⟩ := h
  exact ⟨h1.sorted, h1.ok⟩
theorem dir_setX (w : World) (D : Nat → Prop) (g : Nat) (most : Int) (l : List EntM) (m nb : Nat) (h : DirRep w D g most l m nb) (hm : m + 2 ≤ 1000000) (hnb : nb + 2 ≤ 1000000) (hmost : 0 ≤ most ∧ i64b most) (p : PrefixM) (hp : p.wf) (v : Int) (hv : i64b v) :
    Calls Try.prog 41 #[.pointer (some ⟨g, 0, none⟩), .agg p.cells.toArray, .int .i64 v] w (DirTo w D g most (dirX most l p v).l (m + 2) (nb + 2) (.int .i64 (dirX most l p v).e)) := by
  by_cases hn : p = normP p ∧ 0 ≤ v
  · exact dir_set_ok w D g most l m nb h hm hnb hmost p ⟨hn.1, hp⟩ v hn.2 hv
  · refine (dir_set_bad w g p hp v hn).mono ?_
    rintro e w' ⟨rfl, hf⟩
    have e : dirX most l p v = ⟨1, l⟩ := by unfold dirX; rw [if_neg hn]
    rw [e]
    obtain ⟨h1, h2⟩ := h.same hf
    exact ⟨rfl, h1.up (by omega) (by omega) hnb, h2⟩
/-- Both, in the blocks F. -/
def BothG (w : World) (F : Nat → Prop) (most : Int) (l : List EntM) (g gx m nb : Nat) : Prop := (ownN l : Int) ≤ most ∧ (∀ b, F b → b < w.heap.size) ∧ ∃ D G : Nat → Prop, DirRep w D g most l m nb ∧ DocD w G gx most l ∧ (∀ b, D b → ¬ G b) ∧ (∀ b, D b → F b) ∧ (∀ b, G b → F b)
theorem BothG.fr {w w' : World} {F S : Nat → Prop} {most : Int} {l : List EntM} {g gx m nb : Nat} (h : BothG w F most l g gx m nb) (f : Fr S w w') (hs : ∀ b, F b → ¬ S b) : BothG w' F most l g gx m nb := by
  obtain ⟨h0, h1, D, G, h2, h3, h4, h5, h6⟩ := h
  exact ⟨h0, fun b k => f.lt (h1 b k), D, G, h2.fr f (fun b k => hs b (h5 b k)), h3.fr f (fun b k => hs b (h6 b k)), h4, h5, h6⟩
theorem BothG.up {w : World} {F : Nat → Prop} {most : Int} {l : List EntM} {g gx m m' nb nb' : Nat} (h : BothG w F most l g gx m nb) (hm : m ≤ m') (hn : nb ≤ nb') (hn' : nb' ≤ 1000000) : BothG w F most l g gx m' nb' := by
  obtain ⟨h0, h1, D, G, h2, h3⟩ := h
  exact ⟨h0, h1, D, G, h2.up hm hn hn', h3⟩
theorem BothG.mono {w : World} {F F' : Nat → Prop} {most : Int} {l : List EntM} {g gx m nb : Nat} (h : BothG w F most l g gx m nb) (hF : ∀ b, F b → F' b) (hl : ∀ b, F' b → b < w.heap.size) : BothG w F' most l g gx m nb := by
  obtain ⟨h0, h1, D, G, h2, h3, h4, h5, h6⟩ := h
  exact ⟨h0, hl, D, G, h2, h3, h4, fun b k => hF b (h5 b k), fun b k => hF b (h6 b k)⟩
/-- Both, of the call's own. -/
def BothD (wb w : World) (most : Int) (l : List EntM) (g gx m nb : Nat) : Prop := Fr noB wb w ∧ ∃ F : Nat → Prop, BothG w F most l g gx m nb ∧ ∀ b, F b → wb.heap.size ≤ b
theorem BothD.fr {wb w w' : World} {most : Int} {l : List EntM} {g gx m nb : Nat} (h : BothD wb w most l g gx m nb) (f : Fr noB w w') : BothD wb w' most l g gx m nb := by
  obtain ⟨h0, F, h1, h2⟩ := h
  exact ⟨h0.tr f, F, h1.fr f (fun _ _ h => h), h2⟩
theorem BothD.up {wb w : World} {most : Int} {l : List EntM} {g gx m m' nb nb' : Nat} (h : BothD wb w most l g gx m nb) (hm : m ≤ m') (hn : nb ≤ nb') (hn' : nb' ≤ 1000000) : BothD wb w most l g gx m' nb' := by
  obtain ⟨h0, F, h1, h2⟩ := h
  exact ⟨h0, F, h1.up hm hn hn', h2⟩
theorem both_stepG {w w1 w2 : World} {most : Int} {F D G : Nat → Prop} {g gx m nb : Nat} {l0 l' : List EntM} (hFl : ∀ b, F b → b < w.heap.size) (hG : DocD w G gx most l0) (hF1 : ∀ b, D b → ¬ G b) (hF2 : ∀ b, D b → F b) (hF3 : ∀ b, G b → F b)
    (ho : (ownN l' : Int) ≤ most) (hr : DirRep w1 (gr D w w1) g most l' m nb) (hf1 : Fr D w w1) (hd : DocD w2 (gr G w1 w2) gx most l') (hf2 : Fr G w1 w2) : BothG w2 (gr F w w2) most l' g gx m nb ∧ Fr F w w2 := by
  have s1 := hf1.size; have s2 := hf2.size
  have hnot : ∀ b, gr D w w1 b → ¬ G b := fun b hb hg => by
    rcases hb with hb | hb
    · exact hF1 b hb hg
    · have := hG.lt b hg; omega
  have hf : Fr F w w2 := Fr.trans (hf1.mono (fun b _ h => hF2 b h)) hf2 (fun _ _ h => h) (fun b _ h => hF3 b h)
  refine ⟨⟨ho, fun b hb => ?_, gr D w w1, gr G w1 w2, hr.fr hf2 hnot, hd, fun b hb hg => ?_, fun b hb => ?_, fun b hb => ?_⟩, hf⟩
  · rcases hb with hb | hb
    · exact hf.lt (hFl b hb)
    · exact hb.2
  · rcases hg with hg | hg
    · exact hnot b hb hg
    · have := hr.lt b hb; omega
  · rcases hb with hb | hb
    · exact .inl (hF2 b hb)
    · exact .inr ⟨hb.1, by omega⟩
  · rcases hb with hb | hb
    · exact .inl (hF3 b hb)
    · exact .inr ⟨by omega, hb.2⟩
def actL (most : Int) (l : List EntM) (x : DActM) : List EntM := if x.del then delE l x.p else (dirX most l x.p x.v).l
theorem actL_len (most : Int) (l : List EntM) (x : DActM) : (actL most l x).length ≤ l.length + 1 := by
  unfold actL
  split
  · exact Nat.le_trans (delE_len _ _) (Nat.le_succ _)
  · exact dirX_len _ _ _ _
theorem act_back {w w1 w2 : World} {F : Nat → Prop} {most : Int} {l : List EntM} {g gx m nb : Nat} (f : Fr noB w w1) (hF : ∀ b, F b → b < w.heap.size) (h : BothG w2 (gr F w1 w2) most l g gx m nb ∧ Fr F w1 w2) : BothG w2 (gr F w w2) most l g gx m nb ∧ Fr F w w2 := by
  have s1 := f.size
  have hf : Fr F w w2 := Fr.trans (f.mono (fun _ _ h => h.elim)) h.2 (fun _ _ h => h) (fun _ _ h => h)
  refine ⟨h.1.mono (fun b hb => ?_) (fun b hb => ?_), hf⟩
  · rcases hb with hb | hb
    · exact .inl hb
    · exact .inr ⟨by omega, hb.2⟩
  · rcases hb with hb | hb
    · exact hf.lt (hF b hb)
    · exact hb.2
set_option maxRecDepth 100000 in
set_option maxHeartbeats 8000000 in
theorem law_actG (w : World) (F : Nat → Prop) (most : Int) (hmost : 0 ≤ most ∧ i64b most) (l : List EntM) (g gx m nb : Nat) (h : BothG w F most l g gx m nb) (hm : m + 2 ≤ 1000000) (hnb : nb + 2 ≤ 1000000) (hlen : l.length < 1000) (x : DActM) (hx : x.wf) :
    Calls Try.prog 46 #[.pointer (some ⟨g, 0, none⟩), .pointer (some ⟨gx, 0, none⟩), .agg x.cells.toArray] w fun e w' => e = .returned (.bool true) ∧ BothG w' (gr F w w') most (actL most l x) g gx (m + 2) (nb + 2) ∧ Fr F w w' := by
  obtain ⟨hown, h0, D, G, hd, hg, hDG, hD, hG⟩ := h
  have hgx := hg.lt gx hg.here
  have H0 := hide h0; have Hown := hide hown; have HD := hide hd; have HG := hide hg; have HDG := hide hDG; have HDb := hide hD; have HGb := hide hG; have Hmost := hide hmost; have Hm := hide hm; have Hnb := hide hnb; have Hlen := hide hlen; have Hx := hide hx
  have Hw := hide (show ∀ b, D b ∨ G b → b < w.heap.size from fun b h => h.elim (hd.lt b) (hg.lt b))
  clear h0 hown hd hg hDG hD hG hmost hm hnb hlen hx
  go_enter Try.func46, Try.ntmps46
  go_upto_region 1 with (fail)
  refine wp_gen (fun W => CellsAt W w.heap.size 0 x.cells ∧ Fr noB w W) ⟨by (repeat (first | assumption | exact cells_new _ _ _ (by simp) | refine CellsAt.alloc ?_ _ | refine CellsAt.drew ?_ | refine CellsAt.drewN ?_ _)), (Fr.refl _ _).alloc _⟩ ?_
  rintro w1 ⟨hc1, hf1⟩
  have Hc1 := hide hc1; have Hf1 := hide hf1
  have HD1 := hide (HD.out.fr hf1 (fun _ _ h => h)); have HG1 := hide (HG.out.frN hf1)
  have Hcp := hide (show CellsAt w1 w.heap.size (0 + 1) x.p.cells from cells_pre (ds := [.int .i64 x.v]) (by have h := cells_part hc1 1; exact h))
  have cd : w1.cell? ⟨w.heap.size, 0, none⟩ = some (.bool x.del) := by have := hc1 0 _ rfl; simpa using this
  have cv : ∀ z : GrowS (fun b => D b ∨ G b) w1, z.v.cell? ⟨w.heap.size, 3, none⟩ = some (.int .i64 x.v) := fun z => by have := (Hc1.out.fr z.fr (fun h => by have := Hw.out _ h; omega)) 3 _ rfl; simpa using this
  clear hc1 hf1
  cases hdel : x.del with
  | true =>
    rw [hdel] at cd
    have HA := hide (show actL most l x = delE l x.p from by unfold actL; rw [hdel, if_pos rfl])
    go_upto_region 2 with (fail)
    clear cd cv
    refine wp_region_mix (fun W => ∃ z : GrowS (fun b => D b ∨ G b) w1, W = z.v) (by kernel_rfl) (by kernel_rfl) (inGrowS (Fr.refl _ _).drew) ?_
    iterate 2 (first | (refine wpMix_skip rfl ?_; simp only [Act.put, List.setIfInBounds_toArray, List.set_cons_succ, List.set_cons_zero]) | (refine wpMix_calm rfl rfl (fun K hK => ?_); go_big_quiet_op; refine hK _ ?_; clear hK K))
    refine wpMix_load_atw rfl 28 (.tmp 10) rfl w.heap.size (0 + 1) (by go_simp) x.p.cells (fun W hW => by obtain ⟨z, rfl⟩ := hW; exact Hcp.out.fr z.fr (fun h => by have := Hw.out _ h; omega)) _ Try.underlying28 rfl (by kernel_rfl) ?_
    simp only [Act.put, List.setIfInBounds_toArray, List.set_cons_succ, List.set_cons_zero]
    refine wpMix_spine rfl rfl (fun K hK => ?_); go_wp2_with fail
    refine (dir_del w1.drew D g most l m nb (HD1.out.fr (Fr.refl noB w1).drew (fun _ _ h => h)) Hnb.out x.p Hx.out.1).mono ?_
    rintro e w4 ⟨rfl, hr4, hf4⟩
    have hf4' : Fr D w1 w4 := (Fr.refl D w1).drew.tr hf4
    have hr4' : DirRep w4 (gr D w1 w4) g most (delE l x.p) m (nb + 2) := hr4
    refine hK _ _ rfl (inGrowS (hf4'.mono (fun b _ hb => .inl hb))) ?_
    clear hK K
    have Hr4 := hide hr4'; have Hf4 := hide hf4'
    clear hr4 hr4' hf4 hf4'
    iterate 4 (first | (refine wpMix_skip rfl ?_; simp only [Act.put, List.setIfInBounds_toArray, List.set_cons_succ, List.set_cons_zero]) | (refine wpMix_calm rfl rfl (fun K hK => ?_); go_big_quiet_op; refine hK _ ?_; clear hK K))
    refine wpMix_load_atw rfl 28 (.tmp 16) rfl w.heap.size (0 + 1) (by go_simp) x.p.cells (fun W hW => by obtain ⟨z, rfl⟩ := hW; exact Hcp.out.fr z.fr (fun h => by have := Hw.out _ h; omega)) _ Try.underlying28 rfl (by kernel_rfl) ?_
    simp only [Act.put, List.setIfInBounds_toArray, List.set_cons_succ, List.set_cons_zero]
    refine wpMix_spine rfl rfl (fun K hK => ?_); go_wp2_with fail
    refine (doc_del w4 G gx _ _ l (HG1.out.fr Hf4.out (fun b hb hb2 => HDG.out b hb2 hb)) x.p).mono ?_
    rintro e w5 ⟨rfl, hd5, hf5⟩
    refine hK _ _ rfl (inGrowS (Fr.trans (Hf4.out.mono (fun b _ hb => .inl hb)) hf5 (fun b _ h => h) (fun b _ h => .inr h))) ?_
    clear hK K
    have HB5 := hide (act_back Hf1.out H0.out (both_stepG (fun b k => Hf1.out.lt (H0.out b k)) HG1.out HDG.out HDb.out HGb.out (by have := ownN_del l x.p; have := Hown.out; omega) ((Hr4.out).up (show m ≤ m + 2 by omega) (Nat.le_refl _) Hnb.out) Hf4.out hd5 hf5))
    clear hd5 hf5
    generalize hasE l x.p = h' at *
    have hne : (h' == h') = true := by cases h' <;> rfl
    repeat (first | (refine wpMix_skip rfl ?_; simp only [Act.put, List.setIfInBounds_toArray, List.set_cons_succ, List.set_cons_zero]) | (refine wpMix_calm rfl rfl (fun K hK => ?_); go_big_quiet_op; refine hK _ ?_; clear hK K))
    refine wpMix_nil ?_
    go_wp2_with fail
    go_ret
    rw [HA.out]
    exact ⟨rfl, HB5.out⟩
  | false =>
    rw [hdel] at cd
    have HA := hide (show actL most l x = (dirX most l x.p x.v).l from by unfold actL; rw [hdel, if_neg (by simp)])
    go_upto_region 3 with (fail)
    clear cd
    refine wp_region_mix (fun W => ∃ z : GrowS (fun b => D b ∨ G b) w1, W = z.v) (by kernel_rfl) (by kernel_rfl) (inGrowS (Fr.refl _ _).drew) ?_
    iterate 2 (first | (refine wpMix_skip rfl ?_; simp only [Act.put, List.setIfInBounds_toArray, List.set_cons_succ, List.set_cons_zero]) | (refine wpMix_calm rfl rfl (fun K hK => ?_); go_big_quiet_op; refine hK _ ?_; clear hK K))
    refine wpMix_load_atw rfl 28 (.tmp 21) rfl w.heap.size (0 + 1) (by go_simp) x.p.cells (fun W hW => by obtain ⟨z, rfl⟩ := hW; exact Hcp.out.fr z.fr (fun h => by have := Hw.out _ h; omega)) _ Try.underlying28 rfl (by kernel_rfl) ?_
    simp only [Act.put, List.setIfInBounds_toArray, List.set_cons_succ, List.set_cons_zero]
    iterate 2 (first | (refine wpMix_skip rfl ?_; simp only [Act.put, List.setIfInBounds_toArray, List.set_cons_succ, List.set_cons_zero]) | (refine wpMix_calm rfl rfl (fun K hK => ?_); go_big_quiet_op; refine hK _ ?_; clear hK K))
    refine wpMix_spine rfl rfl (fun K hK => ?_); go_wp2_with fail
    refine (dir_setX w1.drew D g most l m nb (HD1.out.fr (Fr.refl noB w1).drew (fun _ _ h => h)) Hm.out Hnb.out Hmost.out x.p Hx.out.1 x.v Hx.out.2).mono ?_
    rintro e w4 ⟨rfl, hr4, hf4⟩
    have hf4' : Fr D w1 w4 := (Fr.refl D w1).drew.tr hf4
    have hr4' : DirRep w4 (gr D w1 w4) g most (dirX most l x.p x.v).l (m + 2) (nb + 2) := hr4
    refine hK _ _ rfl (inGrowS (hf4'.mono (fun b _ hb => .inl hb))) ?_
    clear hK K
    have Hr4 := hide hr4'; have Hf4 := hide hf4'
    clear hr4 hr4' hf4 hf4'
    iterate 2 (first | (refine wpMix_skip rfl ?_; simp only [Act.put, List.setIfInBounds_toArray, List.set_cons_succ, List.set_cons_zero]) | (refine wpMix_calm rfl rfl (fun K hK => ?_); go_big_quiet_op; refine hK _ ?_; clear hK K))
    refine wpMix_load_atw rfl 28 (.tmp 27) rfl w.heap.size (0 + 1) (by go_simp) x.p.cells (fun W hW => by obtain ⟨z, rfl⟩ := hW; exact Hcp.out.fr z.fr (fun h => by have := Hw.out _ h; omega)) _ Try.underlying28 rfl (by kernel_rfl) ?_
    simp only [Act.put, List.setIfInBounds_toArray, List.set_cons_succ, List.set_cons_zero]
    iterate 2 (first | (refine wpMix_skip rfl ?_; simp only [Act.put, List.setIfInBounds_toArray, List.set_cons_succ, List.set_cons_zero]) | (refine wpMix_calm rfl rfl (fun K hK => ?_); go_big_quiet_op; refine hK _ ?_; clear hK K))
    refine wpMix_spine rfl rfl (fun K hK => ?_); go_wp2_with fail
    refine (doc10_set w4 G gx most l (HG1.out.fr Hf4.out (fun b hb hb2 => HDG.out b hb2 hb)) HD.out.trie.1 HD.out.trie.2 Hown.out Hlen.out x.p Hx.out.1 x.v).mono ?_
    rw [docX_dirX Hown.out]
    rintro e w5 ⟨rfl, hd5, hf5⟩
    refine hK _ _ rfl (inGrowS (Fr.trans (Hf4.out.mono (fun b _ hb => .inl hb)) hf5 (fun b _ h => h) (fun b _ h => .inr h))) ?_
    clear hK K
    have HB5 := hide (act_back Hf1.out H0.out (both_stepG (fun b k => Hf1.out.lt (H0.out b k)) HG1.out HDG.out HDb.out HGb.out (dirX_own Hown.out x.p x.v) Hr4.out Hf4.out hd5 hf5))
    clear hd5 hf5
    generalize (dirX most l x.p x.v).e = h' at *
    have hne : (h' == h') = true := by simp
    repeat (first | (refine wpMix_skip rfl ?_; simp only [Act.put, List.setIfInBounds_toArray, List.set_cons_succ, List.set_cons_zero]) | (refine wpMix_calm rfl rfl (fun K hK => ?_); go_big_quiet_op; refine hK _ ?_; clear hK K))
    refine wpMix_nil ?_
    clear cv
    go_wp2_with fail
    go_ret
    rw [HA.out]
    exact ⟨rfl, HB5.out⟩
theorem law_act (wb w : World) (most : Int) (hmost : 0 ≤ most ∧ i64b most) (l : List EntM) (g gx m nb : Nat) (h : BothD wb w most l g gx m nb) (hm : m + 2 ≤ 1000000) (hnb : nb + 2 ≤ 1000000) (hlen : l.length < 1000) (x : DActM) (hx : x.wf) :
    Calls Try.prog 46 #[.pointer (some ⟨g, 0, none⟩), .pointer (some ⟨gx, 0, none⟩), .agg x.cells.toArray] w fun e w' => e = .returned (.bool true) ∧ BothD wb w' most (actL most l x) g gx (m + 2) (nb + 2) := by
  obtain ⟨h0, F, h1, h2⟩ := h
  refine (law_actG w F most hmost l g gx m nb h1 hm hnb hlen x hx).mono ?_
  rintro e w' ⟨he, h3, h4⟩
  refine ⟨he, h0.trans h4 (fun _ _ h => h) (fun b hb h => by have := h2 b h; omega), gr F w w', h3, fun b hb => ?_⟩
  rcases hb with hb | hb
  · exact h2 b hb
  · have := h0.size; omega
end Go.Proofs.Ytgjabgneapdbiaa
