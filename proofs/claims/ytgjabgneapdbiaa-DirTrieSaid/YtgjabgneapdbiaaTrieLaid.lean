/- The helper laid of chapter 9's laws. -/
import Derived.Test.YtgjabgneapdbiaaTrieHelp
namespace Go.Proofs.Ytgjabgneapdbiaa
open Go.RowKit Go.BigFrame
set_option linter.unusedSimpArgs false
set_option linter.unusedVariables false
attribute [local irreducible] wpMix wpAnyG

theorem putE_len (l : List EntM) (p : PrefixM) (v : Int) : (putE l p v).length ≤ l.length + 1 := by
  unfold putE
  split
  · rw [List.length_set]; omega
  · have := posE_le l p
    simp [List.length_take, List.length_drop]; omega
theorem delE_len (l : List EntM) (p : PrefixM) : (delE l p).length ≤ l.length := by
  unfold delE
  split
  · simp [List.length_take, List.length_drop]; omega
  · exact Nat.le_refl _
theorem setX_len (l : List EntM) (p : PrefixM) (v : Int) : (setX l p v).l.length ≤ l.length + 1 := by
  unfold setX
  split
  · exact putE_len l p v
  · exact Nat.le_succ _
abbrev TActs (w : World) (s : SlV) (xs : List TActM) : Prop := SlOf w 4 TActM.cells TActM.wf s xs
/-- The tree and the document's rows, both of the call's own. -/
def BothT (wb w : World) (l : List EntM) (g gx m : Nat) : Prop := Fr noB wb w ∧ ∃ F G : Nat → Prop, Trie w F g l m ∧ DocT w G gx 50 [] l ∧ (∀ b, F b → ¬ G b) ∧ (∀ b, F b → wb.heap.size ≤ b) ∧ (∀ b, G b → wb.heap.size ≤ b)
theorem BothT.fr {wb w w' : World} {l : List EntM} {g gx m : Nat} (h : BothT wb w l g gx m) (f : Fr noB w w') : BothT wb w' l g gx m := by
  obtain ⟨h0, F, G, h1, h2, h3⟩ := h
  exact ⟨h0.tr f, F, G, h1.frN f, h2.frN f, h3⟩
theorem both_stepT {wb w w1 w2 : World} {F G : Nat → Prop} {g gx m : Nat} {l' : List EntM} (h0 : Fr noB wb w) {l0 : List EntM} (hG : DocT w G gx 50 [] l0) (hF1 : ∀ b, F b → ¬ G b) (hF2 : ∀ b, F b → wb.heap.size ≤ b) (hF3 : ∀ b, G b → wb.heap.size ≤ b)
    (hr : Trie w1 (gr F w w1) g l' m) (hf1 : Fr F w w1) (hd : DocT w2 (gr G w1 w2) gx 50 [] l') (hf2 : Fr G w1 w2) : BothT wb w2 l' g gx m := by
  have s0 := h0.size; have s1 := hf1.size
  have hnot : ∀ b, gr F w w1 b → ¬ G b := fun b hb hg => by
    rcases hb with hb | hb
    · exact hF1 b hb hg
    · have := hG.lt b hg; omega
  refine ⟨Fr.trans (Fr.trans h0 hf1 (fun _ _ h => h) (fun b hb h => by have := hF2 b h; omega)) hf2 (fun _ _ h => h) (fun b hb h => by have := hF3 b h; omega), gr F w w1, gr G w1 w2, hr.fr hf2 hnot, hd, fun b hb hg => ?_, fun b hb => ?_, fun b hb => ?_⟩
  · rcases hg with hg | hg
    · exact hnot b hb hg
    · have := hr.lt b hb; omega
  · rcases hb with hb | hb
    · exact hF2 b hb
    · omega
  · rcases hb with hb | hb
    · exact hF3 b hb
    · have := hb.1; omega
theorem both_new {w w1 : World} {g m : Nat} (h : Trie w1 (newF w w1) g [] m) (hf : Fr noB w w1) : BothT w (w1.alloc (.cells #[.slice none 0 0, .slice none 0 0] 50)) [] g w1.heap.size m := by
  have s1 := hf.size
  refine ⟨hf.alloc _, newF w w1, fun b => w1.heap.size ≤ b ∧ b < w1.heap.size + 1, h.frN ((Fr.refl _ _).alloc _), ⟨⟨⟨none, 0, 0⟩, ⟨none, 0, 0⟩, Blk.alloc_new w1 #[.slice none 0 0, .slice none 0 0] 50, OwnL.nil _ _ _ _, OwnL.nil _ _ _ _, ?_, ?_⟩, by decide, ⟨Nat.le_refl _, by omega⟩, fun b hb => by simp; omega, by simp⟩, fun b hb hg => ?_, fun b hb => hb.1, fun b hb => by omega⟩
  · rintro b ⟨a, ha, _⟩; simp at ha
  · rintro b ⟨a, ha, _⟩; simp at ha
  · have := hb.2; have := hg.1; omega
def LaidAt (wb : World) (n g gx : Nat) (i : Value) (wr : World) : Prop := ∃ (k : Nat) (l : List EntM), k ≤ n ∧ k ≤ 80 ∧ i = .int .i64 k ∧ l.length ≤ k ∧ BothT wb wr l g gx (1 + 2 * k)
def LaidTo (w : World) (e : Ending) (w' : World) : Prop := ∃ (l : List EntM) (g gx : Nat), e = .returned (.tuple #[.pointer (some ⟨g, 0, none⟩), .pointer (some ⟨gx, 0, none⟩)]) ∧ l.length ≤ 80 ∧ BothT w w' l g gx 161
theorem BothT.up {wb w : World} {l : List EntM} {g gx m m' : Nat} (h : BothT wb w l g gx m) (hm : m ≤ m') : BothT wb w l g gx m' := by
  obtain ⟨h0, F, G, h1, h2⟩ := h
  exact ⟨h0, F, G, h1.up hm, h2⟩

set_option maxRecDepth 100000 in
set_option maxHeartbeats 4000000 in
theorem law_laid (s : SlV) (xs : List TActM) (w : World) (hs : TActs w s xs) :
    Calls Try.prog 23 #[.slice s.a s.len s.cap] w (LaidTo w) := by
  obtain ⟨a, len, cap⟩ := s
  have hl : len = xs.length := hs.1
  have hm : len ≤ maxLen := hs.2.1
  unfold maxLen at hm
  have Hs := hide hs; have Hl := hide hl
  clear hs hl
  simp only
  go_enter Try.func23, Try.ntmps23
  go_wp2_with fail
  refine (trie_new _).mono ?_
  rintro e w1 ⟨g, rfl, hr, hf1⟩
  have hb0 := both_new hr hf1
  have Hb0 := hide hb0
  clear hr hf1 hb0
  go_upto_region 2 with (fail)
  refine wp_gen (fun W => BothT w W [] g w1.heap.size 1) Hb0.out ?_
  rintro w2 hb2
  obtain ⟨gx, hgx⟩ : ∃ gx, w1.heap.size = gx := ⟨_, rfl⟩
  rw [hgx] at hb2 ⊢
  have HB := hide hb2
  clear hb2 hgx Hb0
  go_wp2_with fail
  go_loopw [6] (LaidAt w xs.length g gx) (fun i _ => len - (intOf i).toNat)
  case atStart => exact ⟨0, [], Nat.zero_le _, by omega, rfl, Nat.le_refl _, HB.out⟩
  case round =>
    obtain ⟨k, l, hk, hk80, rfl, hlen, hb⟩ := hrel
    have Hb := hide hb
    clear hb HB
    by_cases hgo : k < len ∧ k < 80
    · obtain ⟨hlt, h80⟩ := hgo
      have hk2 : k < xs.length := by have := Hl.out; omega
      have hx : xs[k]? = some xs[k] := List.getElem?_eq_getElem hk2
      obtain ⟨b, o, rfl, hbw, hc, hwf⟩ := SlOf.at (SlOf.fr Hs.out Hb.out.1 (fun _ _ h => h) (fun _ h => h)) hx
      obtain ⟨_, _, hbo, hblt, _⟩ := SlOf.at Hs.out hx
      obtain ⟨rfl, rfl⟩ : b = _ ∧ o = _ := by simpa using hbo
      generalize xs[k] = x at *
      have hmul : ((k : Int) * 4).toNat = k * 4 := by omega
      have cd : wr.cell? ⟨b, o + k * 4, none⟩ = some (.bool x.del) := by have := hc 0 _ rfl; simpa using this
      have cv : wr.cell? ⟨b, o + k * 4 + 3, none⟩ = some (.int .i64 x.v) := by have := hc 3 _ rfl; simpa using this
      have hcp : CellsAt wr b (o + k * 4 + 1) x.p.cells := cells_pre (ds := [.int .i64 x.v]) (by have h := cells_part hc 1; exact h)
      have Hcv := hide (show CellsAt wr b (o + k * 4 + 3) [.int .i64 x.v] from cells_part hc 3)
      have Hcp := hide hcp; have Hwf := hide (show x.p.wf from hwf.1)
      clear hx hk hc hwf hbo
      obtain ⟨hfb, F, G, htr, hdoc, hF1, hF2, hF3⟩ := Hb.out
      have Hfb := hide hfb
      clear hfb
      cases hdel : x.del with
      | true =>
        rw [hdel] at cd
        go_wp2_with (refine wpList_load_atw rfl 28 _ rfl _ _ rfl (PrefixM.cells _) (by (repeat (first | assumption | exact cells_new _ _ _ (by simp) | refine CellsAt.alloc ?_ _ | refine CellsAt.drew ?_ | refine CellsAt.drewN ?_ _))) _ Try.underlying28 rfl (by kernel_rfl) ?_)
        refine (trie_delX wr F g l _ htr x.p Hwf.out).mono ?_
        rintro e w4 ⟨rfl, hr4, hf4⟩
        have Hr4 := hide hr4; have Hf4 := hide hf4
        have hcp4 : CellsAt w4 b (o + k * 4 + 1) x.p.cells := Hcp.out.fr hf4 (fun h => by have := hF2 b h; omega)
        clear hr4 hf4 hcp cd cv
        go_wp2_with (refine wpList_load_atw rfl 28 _ rfl _ _ rfl (PrefixM.cells _) (by (repeat (first | assumption | exact cells_new _ _ _ (by simp) | refine CellsAt.alloc ?_ _ | refine CellsAt.drew ?_ | refine CellsAt.drewN ?_ _))) _ Try.underlying28 rfl (by kernel_rfl) ?_)
        refine (doc_del w4 G gx _ [] l (hdoc.fr Hf4.out (fun b hb hb2 => hF1 b hb2 hb)) x.p).mono ?_
        rintro e w5 ⟨rfl, hd5, hf5⟩
        have HB5 := hide (both_stepT Hfb.out hdoc hF1 hF2 hF3 Hr4.out Hf4.out hd5 hf5)
        have hlen' : (delE l x.p).length ≤ k := Nat.le_trans (delE_len _ _) hlen
        generalize delE l x.p = l' at *
        generalize hasE l x.p = h' at *
        clear hd5 hf5 hcp4 Hr4 Hf4
        go_wp2_with fail
        go_roundw
        case rel => exact ⟨k + 1, l', by omega, by omega, by go_num, by omega, HB5.out.up (by omega)⟩
        case measure => simp [intOf]; omega
      | false =>
        rw [hdel] at cd
        go_upto_region 10 with (fail)
        have hcv : ∀ z : GrowS (fun b => w.heap.size ≤ b) wr, z.v.cell? ⟨b, o + k * 4 + 3, none⟩ = some (.int .i64 x.v) := fun z => by have := Hcv.out.fr z.fr (fun h => by omega) 0 _ rfl; simpa using this
        refine wp_region_mix (fun W => ∃ z : GrowS (fun b => w.heap.size ≤ b) wr, W = z.v) (by kernel_rfl) (by kernel_rfl) (inGrowS (Fr.refl _ _).drew) ?_
        iterate 5 (first | (refine wpMix_skip rfl ?_; simp only [Act.put, List.setIfInBounds_toArray, List.set_cons_succ, List.set_cons_zero]) | (refine wpMix_calm rfl rfl (fun K hK => ?_); go_big_quiet_op; refine hK _ ?_; clear hK K))
        refine wpMix_load_atw rfl 28 (.tmp 46) rfl b (o + k * 4 + 1) (by go_simp) x.p.cells (fun W hW => by obtain ⟨z, rfl⟩ := hW; exact Hcp.out.fr z.fr (fun h => by omega)) _ Try.underlying28 rfl (by kernel_rfl) ?_
        simp only [Act.put, List.setIfInBounds_toArray, List.set_cons_succ, List.set_cons_zero]
        iterate 5 (first | (refine wpMix_skip rfl ?_; simp only [Act.put, List.setIfInBounds_toArray, List.set_cons_succ, List.set_cons_zero]) | (refine wpMix_calm rfl rfl (fun K hK => ?_); go_big_quiet_op; refine hK _ ?_; clear hK K))
        refine wpMix_spine rfl rfl (fun K hK => ?_); go_wp2_with fail
        refine (trie_setX wr.drew F g l _ (htr.frN (Fr.refl noB wr).drew) (by omega) x.p Hwf.out x.v).mono ?_
        rintro e w4 ⟨rfl, hr4, hf4⟩
        have hf4' : Fr F wr w4 := (Fr.refl F wr).drew.tr hf4
        have hr4' : Trie w4 (gr F wr w4) g (setX l x.p x.v).l (1 + 2 * k + 2) := hr4
        refine hK _ _ rfl (inGrowS (hf4'.mono (fun b _ hb => hF2 b hb))) ?_
        clear hK K
        have Hr4 := hide hr4'; have Hf4 := hide hf4'
        have Hcp4 := hide (Hcp.out.fr hf4' (fun h => by have := hF2 b h; omega))
        have Hcv4 := hide (Hcv.out.fr hf4' (fun h => by have := hF2 b h; omega))
        repeat (first | (refine wpMix_skip rfl ?_; simp only [Act.put, List.setIfInBounds_toArray, List.set_cons_succ, List.set_cons_zero]) | (refine wpMix_calm rfl rfl (fun K hK => ?_); go_big_quiet_op; refine hK _ ?_; clear hK K))
        refine wpMix_nil ?_
        clear hr4 hf4 hf4' hr4' hcv hcp cd cv
        go_upto_region 11 with (fail)
        refine wp_region_mix (fun W => ∃ z : GrowS (fun b => w.heap.size ≤ b) w4, W = z.v) (by kernel_rfl) (by kernel_rfl) (inGrowS (Fr.refl _ _).drew) ?_
        have hcv : ∀ z : GrowS (fun b => w.heap.size ≤ b) w4, z.v.cell? ⟨b, o + k * 4 + 3, none⟩ = some (.int .i64 x.v) := fun z => by have := Hcv4.out.fr z.fr (fun h => by omega) 0 _ rfl; simpa using this
        iterate 5 (first | (refine wpMix_skip rfl ?_; simp only [Act.put, List.setIfInBounds_toArray, List.set_cons_succ, List.set_cons_zero]) | (refine wpMix_calm rfl rfl (fun K hK => ?_); go_big_quiet_op; refine hK _ ?_; clear hK K))
        refine wpMix_load_atw rfl 28 (.tmp 58) rfl b (o + k * 4 + 1) (by go_simp) x.p.cells (fun W hW => by obtain ⟨z, rfl⟩ := hW; exact Hcp4.out.fr z.fr (fun h => by omega)) _ Try.underlying28 rfl (by kernel_rfl) ?_
        simp only [Act.put, List.setIfInBounds_toArray, List.set_cons_succ, List.set_cons_zero]
        iterate 5 (first | (refine wpMix_skip rfl ?_; simp only [Act.put, List.setIfInBounds_toArray, List.set_cons_succ, List.set_cons_zero]) | (refine wpMix_calm rfl rfl (fun K hK => ?_); go_big_quiet_op; refine hK _ ?_; clear hK K))
        refine wpMix_spine rfl rfl (fun K hK => ?_); go_wp2_with fail
        refine (doc_set w4.drew G gx _ [] l ((hdoc.fr Hf4.out (fun b hb hb2 => hF1 b hb2 hb)).frN (Fr.refl noB w4).drew) (by omega) x.p Hwf.out x.v).mono ?_
        rintro e w5 ⟨rfl, hd5, hf5⟩
        have hf5' : Fr G w4 w5 := (Fr.refl G w4).drew.tr hf5
        have hd5' : DocT w5 (gr G w4 w5) gx 50 [] (setX l x.p x.v).l := hd5
        refine hK _ _ rfl (inGrowS (hf5'.mono (fun b _ hb => hF3 b hb))) ?_
        clear hK K
        have HB5 := hide (both_stepT Hfb.out hdoc hF1 hF2 hF3 Hr4.out Hf4.out hd5' hf5')
        have hlen' : (setX l x.p x.v).l.length ≤ k + 1 := Nat.le_trans (setX_len _ _ _) (by omega)
        generalize (setX l x.p x.v).l = l' at *
        generalize (setX l x.p x.v).e = e' at *
        clear hd5 hf5 hf5' hd5' Hr4 Hf4
        repeat (first | (refine wpMix_skip rfl ?_; simp only [Act.put, List.setIfInBounds_toArray, List.set_cons_succ, List.set_cons_zero]) | (refine wpMix_calm rfl rfl (fun K hK => ?_); go_big_quiet_op; refine hK _ ?_; clear hK K))
        refine wpMix_nil ?_
        clear hcv
        go_wp2_with fail
        go_roundw
        case rel => exact ⟨k + 1, l', by omega, by omega, by go_num, by omega, HB5.out.up (by omega)⟩
        case measure => simp [intOf]; omega
    · have hstop : (k < len ∧ ¬ k < 80) ∨ ¬ k < len := by omega
      clear hgo
      rcases hstop with ⟨h1, h2⟩ | h1
      all_goals
        go_wp2_with fail
        go_ret2
        exact ⟨l, g, gx, rfl, by omega, Hb.out.up (by omega)⟩
end Go.Proofs.Ytgjabgneapdbiaa
