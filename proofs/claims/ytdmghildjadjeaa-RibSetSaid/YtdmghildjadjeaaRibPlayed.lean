/- The helper played of chapter 11's laws. -/
import Derived.Test.YtdmghildjadjeaaRibHelp2
namespace Go.Proofs.Ytdmghildjadjeaa
open Go.RowKit Go.BigFrame
set_option linter.unusedSimpArgs false
set_option linter.unusedVariables false
attribute [local irreducible] wpMix wpAnyG

theorem results_3t {P : Program} {fn : Func} {p u v : Tmp} (h : fn.results = #[.tmp p, .tmp u, .tmp v]) (tmps : Array Value) (w : World) (x y z : Value) (hx : tmps.getD p undef = x) (hy : tmps.getD u undef = y) (hz : tmps.getD v undef = z) :
    (results fn tmps).run P w = .ok (.tuple #[x, y, z]) w := by
  subst hx; subst hy; subst hz
  simp [results, h, Sem.run_bind]
set_option maxRecDepth 100000 in
set_option maxHeartbeats 4000000 in
theorem law_played (s : SlV) (xs : List ActM) (w : World) (hs : Acts w s xs) :
    Calls Try.prog 17 #[.slice s.a s.len s.cap] w (PlayedTo w) := by
  obtain ⟨a, len, cap⟩ := s
  have hl : len = xs.length := hs.1
  have hm : len ≤ maxLen := hs.2.1
  unfold maxLen at hm
  have Hs := hide hs; have Hl := hide hl
  clear hs hl
  simp only
  go_enter Try.func17, Try.ntmps17
  go_wp2_with fail
  refine (rib_new _).mono ?_
  rintro e w1 ⟨rfl, hr, hf1⟩
  have Hr := hide hr; have Hf1 := hide hf1
  clear hr hf1
  go_upto_region 4 with (fail)
  have hb0 : BothR w (w1.alloc (.cells #[.slice none 0 0] 50)) [] w.heap.size w1.heap.size := by
    have s1 := Hf1.out.size
    refine ⟨Hf1.out.alloc _, newB w w1, fun b => w1.heap.size ≤ b ∧ b < w1.heap.size + 1, Hr.out.frN ((Fr.refl _ _).alloc _), ⟨⟨⟨none, 0, 0⟩, Blk.alloc_new w1 #[.slice none 0 0] 50, OwnL.nil _ _ _ _, ?_⟩, ⟨Nat.le_refl _, by omega⟩, fun b hb => by simp; omega, by simp, by simp⟩, fun b hb hg => ?_, fun b hb => hb.1, fun b hb => by omega⟩
    · rintro b ⟨a, ha, _⟩; simp at ha
    · have := hb.2; have := hg.1; omega
  refine wp_gen (fun W => BothR w W [] w.heap.size w1.heap.size) hb0 ?_
  rintro w2 hb2
  have HB2 := hide hb2
  clear hb2 hb0
  obtain ⟨g, hg⟩ : ∃ g, w.heap.size = g := ⟨_, rfl⟩
  obtain ⟨gx, hgx⟩ : ∃ gx, w1.heap.size = gx := ⟨_, rfl⟩
  rw [hgx] at HB2 ⊢
  have HB3 : Hid (BothR w w2 [] g gx) := by rw [← hg]; exact HB2
  rw [hg]
  clear hg hgx HB2 Hr Hf1
  go_wp2_with fail
  go_loopw [7] (PlayAt w xs.length g gx) (fun i _ => len - (intOf i).toNat)
  case atStart => exact ⟨0, [], Nat.zero_le _, rfl, HB3.out⟩
  case round =>
    obtain ⟨k, l, hk, rfl, hb⟩ := hrel
    have Hb := hide hb
    clear hb HB3
    by_cases hgo : k < len ∧ k < 60
    · obtain ⟨hlt, h60⟩ := hgo
      have hk2 : k < xs.length := by have := Hl.out; omega
      have hx : xs[k]? = some xs[k] := List.getElem?_eq_getElem hk2
      obtain ⟨b, o, rfl, hbw, hc, hwf⟩ := SlOf.at (SlOf.fr Hs.out Hb.out.1 (fun _ _ h => h) (fun _ h => h)) hx
      obtain ⟨_, _, hbo, hblt, _⟩ := SlOf.at Hs.out hx
      obtain ⟨rfl, rfl⟩ : b = _ ∧ o = _ := by simpa using hbo
      generalize xs[k] = x at *
      have hmul : ((k : Int) * 7).toNat = k * 7 := by omega
      have cd : wr.cell? ⟨b, o + k * 7, none⟩ = some (.bool x.del) := by have := hc 0 _ rfl; simpa using this
      have hcr : CellsAt wr b (o + k * 7 + 1) x.r.cells := by have h := cells_part hc 1; exact h
      have Hcr := hide hcr; have Hwf := hide (show x.r.wf from hwf)
      clear hx hk hc hwf hcr hbo
      obtain ⟨hfb, F, G, hrib, hdoc, hF1, hF2, hF3⟩ := Hb.out
      have Hfb := hide hfb
      clear hfb
      cases hdel : x.del with
      | true =>
        rw [hdel] at cd
        go_upto_region 8 with (fail)
        refine wp_region_mix (fun W => ∃ z : GrowS (fun b => w.heap.size ≤ b) wr, W = z.v) (by kernel_rfl) (by kernel_rfl) (inGrowS (Fr.refl _ _).drew) ?_
        iterate 5 (first | (refine wpMix_skip rfl ?_; simp only [Act.put, List.setIfInBounds_toArray, List.set_cons_succ, List.set_cons_zero]) | (refine wpMix_calm rfl rfl (fun K hK => ?_); go_big_quiet_op; refine hK _ ?_; clear hK K))
        refine wpMix_load_atw rfl 26 (.tmp 33) rfl b (o + k * 7 + 1) (by go_simp) x.r.cells (fun W hW => by obtain ⟨z, rfl⟩ := hW; exact Hcr.out.fr z.fr (fun h => by omega)) _ Try.underlying26 rfl (by kernel_rfl) ?_
        simp only [Act.put, List.setIfInBounds_toArray, List.set_cons_succ, List.set_cons_zero]
        refine wpMix_spine rfl rfl (fun K hK => ?_); go_wp2_with fail
        refine (rib_del wr.drew F g l (hrib.frN (Fr.refl noB wr).drew) x.r).mono ?_
        rintro e w4 ⟨rfl, hr4, hf4⟩
        have hf4' : Fr F wr w4 := (Fr.refl F wr).drew.tr hf4
        have hr4' : Rib w4 (gr F wr w4) g (delR l x.r).l := hr4
        refine hK _ _ rfl (inGrowS (hf4'.mono (fun b _ hb => hF2 b hb))) ?_
        clear hK K
        iterate 5 (first | (refine wpMix_skip rfl ?_; simp only [Act.put, List.setIfInBounds_toArray, List.set_cons_succ, List.set_cons_zero]) | (refine wpMix_calm rfl rfl (fun K hK => ?_); go_big_quiet_op; refine hK _ ?_; clear hK K))
        refine wpMix_load_atw rfl 26 (.tmp 40) rfl b (o + k * 7 + 1) (by go_simp) x.r.cells (fun W hW => by obtain ⟨z, rfl⟩ := hW; exact Hcr.out.fr z.fr (fun h => by omega)) _ Try.underlying26 rfl (by kernel_rfl) ?_
        simp only [Act.put, List.setIfInBounds_toArray, List.set_cons_succ, List.set_cons_zero]
        refine wpMix_spine rfl rfl (fun K hK => ?_); go_wp2_with fail
        refine (doc_del w4 G gx l (hdoc.fr hf4' (fun b hb hb2 => hF1 b hb2 hb)) x.r).mono ?_
        rintro e w5 ⟨rfl, hd5, hf5⟩
        refine hK _ _ rfl (inGrowS ((hf4'.mono (fun b _ hb => hF2 b hb)).trans hf5 (fun _ _ h => h) (fun b hb h => hF3 b h))) ?_
        clear hK K
        have HB5 := hide (both_step Hfb.out hdoc hF1 hF2 hF3 hr4' hf4' hd5 hf5)
        generalize (delR l x.r).l = l' at *
        generalize (delR l x.r).e = e' at *
        clear hr4 hf4 hf4' hr4' hd5 hf5 hrib hdoc hF1 hF2 hF3
        repeat (first | (refine wpMix_skip rfl ?_; simp only [Act.put, List.setIfInBounds_toArray, List.set_cons_succ, List.set_cons_zero]) | (refine wpMix_calm rfl rfl (fun K hK => ?_); go_big_quiet_op; refine hK _ ?_; clear hK K))
        refine wpMix_nil ?_
        go_wp2_with fail
        go_roundw
        case rel => exact ⟨k + 1, l', by omega, by go_num, HB5.out⟩
        case measure => simp [intOf]; omega
      | false =>
        rw [hdel] at cd
        go_upto_region 10 with (fail)
        refine wp_region_mix (fun W => ∃ z : GrowS (fun b => w.heap.size ≤ b) wr, W = z.v) (by kernel_rfl) (by kernel_rfl) (inGrowS (Fr.refl _ _).drew) ?_
        iterate 5 (first | (refine wpMix_skip rfl ?_; simp only [Act.put, List.setIfInBounds_toArray, List.set_cons_succ, List.set_cons_zero]) | (refine wpMix_calm rfl rfl (fun K hK => ?_); go_big_quiet_op; refine hK _ ?_; clear hK K))
        refine wpMix_load_atw rfl 26 (.tmp 50) rfl b (o + k * 7 + 1) (by go_simp) x.r.cells (fun W hW => by obtain ⟨z, rfl⟩ := hW; exact Hcr.out.fr z.fr (fun h => by omega)) _ Try.underlying26 rfl (by kernel_rfl) ?_
        simp only [Act.put, List.setIfInBounds_toArray, List.set_cons_succ, List.set_cons_zero]
        refine wpMix_spine rfl rfl (fun K hK => ?_); go_wp2_with fail
        refine (rib_add wr.drew F g l (hrib.frN (Fr.refl noB wr).drew) x.r Hwf.out).mono ?_
        rintro e w4 ⟨rfl, hr4, hf4⟩
        have hf4' : Fr F wr w4 := (Fr.refl F wr).drew.tr hf4
        have hr4' : Rib w4 (gr F wr w4) g (addR l x.r).l := hr4
        refine hK _ _ rfl (inGrowS (hf4'.mono (fun b _ hb => hF2 b hb))) ?_
        clear hK K
        iterate 5 (first | (refine wpMix_skip rfl ?_; simp only [Act.put, List.setIfInBounds_toArray, List.set_cons_succ, List.set_cons_zero]) | (refine wpMix_calm rfl rfl (fun K hK => ?_); go_big_quiet_op; refine hK _ ?_; clear hK K))
        refine wpMix_load_atw rfl 26 (.tmp 57) rfl b (o + k * 7 + 1) (by go_simp) x.r.cells (fun W hW => by obtain ⟨z, rfl⟩ := hW; exact Hcr.out.fr z.fr (fun h => by omega)) _ Try.underlying26 rfl (by kernel_rfl) ?_
        simp only [Act.put, List.setIfInBounds_toArray, List.set_cons_succ, List.set_cons_zero]
        refine wpMix_spine rfl rfl (fun K hK => ?_); go_wp2_with fail
        refine (doc_add w4 G gx l (hdoc.fr hf4' (fun b hb hb2 => hF1 b hb2 hb)) x.r Hwf.out).mono ?_
        rintro e w5 ⟨rfl, hd5, hf5⟩
        refine hK _ _ rfl (inGrowS ((hf4'.mono (fun b _ hb => hF2 b hb)).trans hf5 (fun _ _ h => h) (fun b hb h => hF3 b h))) ?_
        clear hK K
        have HB5 := hide (both_step Hfb.out hdoc hF1 hF2 hF3 hr4' hf4' hd5 hf5)
        generalize (addR l x.r).l = l' at *
        generalize (addR l x.r).e = e' at *
        clear hr4 hf4 hf4' hr4' hd5 hf5 hrib hdoc hF1 hF2 hF3
        repeat (first | (refine wpMix_skip rfl ?_; simp only [Act.put, List.setIfInBounds_toArray, List.set_cons_succ, List.set_cons_zero]) | (refine wpMix_calm rfl rfl (fun K hK => ?_); go_big_quiet_op; refine hK _ ?_; clear hK K))
        refine wpMix_nil ?_
        go_wp2_with fail
        go_roundw
        case rel => exact ⟨k + 1, l', by omega, by go_num, HB5.out⟩
        case measure => simp [intOf]; omega
    · have hstop : (k < len ∧ ¬ k < 60) ∨ ¬ k < len := by omega
      clear hgo
      rcases hstop with ⟨h1, h2⟩ | h1
      all_goals
        go_wp2_with fail
        exact bodyPost_ret (results_3t Try.results17 _ _ (.pointer (some ⟨g, 0, none⟩)) (.pointer (some ⟨gx, 0, none⟩)) (.bool true) rfl rfl rfl) rfl ⟨l, g, gx, rfl, Hb.out⟩
end Go.Proofs.Ytdmghildjadjeaa
