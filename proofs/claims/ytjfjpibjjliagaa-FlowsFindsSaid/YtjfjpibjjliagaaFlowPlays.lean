/- The law FlowsPlays, walked: it returns true. -/
import Derived.Test.YtjfjpibjjliagaaFlowAct
import Derived.Test.YtjfjpibjjliagaaMix2
namespace Go.Proofs.Ytjfjpibjjliagaa
open Go.RowKit Go.BigFrame
set_option linter.unusedSimpArgs false
set_option linter.unusedVariables false
attribute [local irreducible] wpMix wpAnyG

def PlayAt (wb : World) (n : Nat) (most : Int) (g gx : Nat) (i : Value) (wr : World) : Prop := ∃ (k : Nat) (fl : List FlowM), k ≤ n ∧ i = .int .i64 k ∧ Both wb wr fl most g gx
/-- Both tables, made. -/
theorem both_new {wb w w1 w2 : World} {most : Int} {g gx : Nat} (h0 : Fr noB wb w) (ht : Tab w1 (newB w w1) g [] most) (h1 : Fr noB w w1) (hd : Doc w2 (newB w1 w2) gx [] most) (h2 : Fr noB w1 w2) : Both wb w2 [] most g gx := by
  have s0 := h0.size; have s1 := h1.size
  refine ⟨(h0.tr h1).tr h2, newB w w1, newB w1 w2, ht.frN h2, hd, fun b hb hg => ?_, fun b hb => ?_, fun b hb => ?_⟩
  · have := hb.2; have := hg.1; omega
  · have := hb.1; omega
  · have := hb.1; omega

set_option maxRecDepth 100000 in
set_option maxHeartbeats 2000000 in
theorem law_plays (most : Int) (s : SlV) (xs : List ActM) (w : World) (hs : Acts w s xs) :
    Calls Try.prog 6 #[.int .i64 most, .slice s.a s.len s.cap] w fun e w' => e = .returned (.bool true) ∧ Fr noB w w' := by
  obtain ⟨a, len, cap⟩ := s
  have hl : len = xs.length := hs.1
  have hm : len ≤ maxLen := hs.2.1
  unfold maxLen at hm
  have Hs := hide hs; have Hl := hide hl
  clear hs hl
  go_enter Try.func6, Try.ntmps6
  go_wp2_with fail
  refine (law_long ⟨a, len, cap⟩ xs _ Hs.out).mono ?_
  rintro e w1 ⟨b, rfl, hf1⟩
  have Hf1 := hide hf1
  clear hf1
  cases b with
  | true =>
    go_wp2_with fail
    go_ret
    exact ⟨rfl, Hf1.out⟩
  | false =>
    go_wp2_with fail
    refine (flows_new most _).mono ?_
    rintro e w2 ⟨rfl, ht, hf2⟩
    have Ht := hide ht; have Hf2 := hide hf2
    clear ht hf2
    go_wp2_with fail
    refine (doc_new most _).mono ?_
    rintro e w3 ⟨rfl, hd, hf3⟩
    have HB := hide (both_new Hf1.out Ht.out Hf2.out hd hf3)
    clear hd hf3 Ht Hf2
    obtain ⟨g, hg⟩ : ∃ g, w1.heap.size + 1 = g := ⟨_, rfl⟩
    obtain ⟨gx, hgx⟩ : ∃ gx, w2.heap.size = gx := ⟨_, rfl⟩
    rw [hg, hgx] at HB
    rw [hg, hgx]
    clear hg hgx
    generalize capF most = mo at *
    go_wp2_with fail
    go_loopw [7] (PlayAt w xs.length mo g gx) (fun i _ => len - (intOf i).toNat)
    case atStart => exact ⟨0, [], Nat.zero_le _, rfl, HB.out⟩
    case round =>
      obtain ⟨k, fl, hk, rfl, hb⟩ := hrel
      have Hb := hide hb
      clear hb HB
      by_cases hgo : k < len ∧ k < 100
      · obtain ⟨hlt, h100⟩ := hgo
        have hk2 : k < xs.length := by have := Hl.out; omega
        have hx : xs[k]? = some xs[k] := List.getElem?_eq_getElem hk2
        obtain ⟨b, o, rfl, hbw, hc, hwf⟩ := SlOf.at (SlOf.fr Hs.out Hb.out.1 (fun _ _ h => h) (fun _ h => h)) hx
        generalize xs[k] = x at *
        have hmul : ((k : Int) * 16).toNat = k * 16 := by omega
        have Hc := hide hc; have Hwf := hide hwf
        clear hx hk hc hwf
        go_upto_region 9 with (fail)
        refine wp_region_mix2 6 (fun W => ∃ z : Grow wr, W = z.v) (by kernel_rfl) (by kernel_rfl) (inGrow (Fr.refl _ _).drew) ?_
        simp only [List.take_succ_cons, List.take_zero, List.drop_succ_cons, List.drop_zero]
        iterate 5 (first | (refine wpMix_skip rfl ?_; simp only [Act.put, List.setIfInBounds_toArray, List.set_cons_succ, List.set_cons_zero]) | (refine wpMix_calm rfl rfl (fun K hK => ?_); go_big_quiet_op; refine hK _ ?_; clear hK K))
        refine wpMix_load_atw rfl 48 (.tmp 30) rfl b (o + k * 16) rfl x.cells (fun W hW => by obtain ⟨z, rfl⟩ := hW; exact Hc.out.fr z.fr (fun h => h)) _ Try.underlying48 rfl (by kernel_rfl) ?_
        simp only [Act.put, List.setIfInBounds_toArray, List.set_cons_succ, List.set_cons_zero]
        refine wpMix_nil ?_
        refine wpList_plain rfl (fun K hK => ?_)
        go_wp2_with fail
        refine (law_act w _ fl mo g gx (Hb.out.frN (Fr.refl noB _).drew) x Hwf.out).mono ?_
        rintro e w4 ⟨rfl, hb4⟩
        generalize actF mo fl x = fl' at *
        have Hb4 := hide hb4
        obtain ⟨_, F, G, ht, hd, _⟩ := hb4
        obtain ⟨⟨⟨sa, sl, sc⟩, hblk, hown, _⟩, _, _, hle, hm0, hm64, hwfs⟩ := hd
        have hlen : fl'.length ≤ 64 := by omega
        have hsl : sl = fl'.length := hown.1
        have c0 : ∀ z : Grow w4, z.v.cell? ⟨gx, 0, none⟩ = some (.slice sa sl sc) := fun z => (hblk.fr z.fr (fun h => h)).cell 0
        have Ht := hide ht; have Hown := hide hown; have Hwfs := hide hwfs; have Hsl := hide hsl
        clear ht hown hwfs hsl hblk hle hm0 hm64
        refine hK _ _ ⟨rfl, (fun W => ∃ z : Grow w4, W = z.v), inGrow (Fr.refl _ _), ?_⟩
        clear hK K
        iterate 3 (first | (refine wpMix_skip rfl ?_; simp only [Act.put, List.setIfInBounds_toArray, List.set_cons_succ, List.set_cons_zero]) | (refine wpMix_calm rfl rfl (fun K hK => ?_); go_big_quiet_op; refine hK _ ?_; clear hK K))
        refine wpMix_spine rfl rfl (fun K hK => ?_); go_wp2_with fail
        refine (flows_list _ F g fl' mo Ht.out).mono ?_
        rintro e w5 ⟨s5, rfl, n5, f5⟩
        have N5 := hide n5; have F5 := hide f5
        refine hK _ _ rfl (inGrow f5) ?_
        clear hK K n5 f5
        iterate 4 (first | (refine wpMix_skip rfl ?_; simp only [Act.put, List.setIfInBounds_toArray, List.set_cons_succ, List.set_cons_zero]) | (refine wpMix_calm rfl rfl (fun K hK => ?_); go_big_quiet_op; refine hK _ ?_; clear hK K))
        refine wpMix_spine rfl rfl (fun K hK => ?_); go_wp2_with fail
        refine (law_rows s5 fl' ⟨sa, sl, sc⟩ fl' _ (N5.out.slof FlowM.length Hwfs.out) ((Hown.out.fr F5.out (fun _ _ h => h)).slof FlowM.length Hwfs.out)).mono ?_
        rintro e w6 ⟨rfl, f6⟩
        rw [decide_eq_true rfl]
        have F6 := hide (F5.out.tr f6)
        refine hK _ _ rfl (inGrow F6.out) ?_
        clear hK K f6
        iterate 4 (first | (refine wpMix_skip rfl ?_; simp only [Act.put, List.setIfInBounds_toArray, List.set_cons_succ, List.set_cons_zero]) | (refine wpMix_calm rfl rfl (fun K hK => ?_); go_big_quiet_op; refine hK _ ?_; clear hK K))
        refine wpMix_spine rfl rfl (fun K hK => ?_); go_wp2_with fail
        refine (flows_len _ F g fl' mo (Ht.out.frN F6.out)).mono ?_
        rintro e w7 ⟨rfl, rfl⟩
        refine hK _ _ rfl (inGrow F6.out) ?_
        clear hK K
        rw [← Hsl.out]
        repeat (first | (refine wpMix_skip rfl ?_; simp only [Act.put, List.setIfInBounds_toArray, List.set_cons_succ, List.set_cons_zero]) | (refine wpMix_calm rfl rfl (fun K hK => ?_); go_big_quiet_op; refine hK _ ?_; clear hK K))
        refine wpMix_nil ?_
        clear c0
        go_wp2_with fail
        go_roundw
        case rel => exact ⟨k + 1, fl', by omega, by go_num, Hb4.out.frN F6.out⟩
        case measure => simp [intOf]; omega
      · have hstop : (k < len ∧ ¬ k < 100) ∨ ¬ k < len := by omega
        clear hgo
        rcases hstop with ⟨h1, h2⟩ | h1
        all_goals
          go_wp2_with fail
          refine (law_known _).mono ?_
          rintro e w8 ⟨rfl, hf8⟩
          have Hf8 := hide hf8
          clear hf8
          go_wp2_with fail
          go_ret
          exact ⟨rfl, Hb.out.1.tr Hf8.out⟩
end Go.Proofs.Ytjfjpibjjliagaa
