/- The law DirPlays, walked: it returns true. -/
import Derived.Test.YtgjabgneapdbiaaDirAct
namespace Go.Proofs.Ytgjabgneapdbiaa
open Go.RowKit Go.BigFrame
set_option linter.unusedSimpArgs false
set_option linter.unusedVariables false
attribute [local irreducible] wpMix wpAnyG

theorem bothD_new {w w1 w2 : World} {most : Int} {g gx : Nat} (h0 : 0 ≤ most) (h : DirRep w1 (newF w w1) g most [] 1 0) (hf1 : Fr noB w w1) (hd : DocD w2 (newF w1 w2) gx most []) (hf2 : Fr noB w1 w2) : BothD w w2 most [] g gx 1 0 := by
  have s1 := hf1.size; have s2 := hf2.size
  refine ⟨hf1.tr hf2, newF w w2, ⟨by simpa [ownN, hsL, bsL] using h0, fun b hb => hb.2, newF w w1, newF w1 w2, h.fr hf2 (fun _ _ h => h), hd, fun b hb hg => ?_, fun b hb => ⟨hb.1, by have := hb.2; omega⟩, fun b hb => ⟨by have := hb.1; omega, hb.2⟩⟩, fun b hb => hb.1⟩
  have := hb.2; have := hg.1; omega
theorem max_i64 {n : Int} (h : i64b n) : 0 ≤ max n 0 ∧ i64b (max n 0) := by
  unfold i64b at *
  omega
theorem getV_pair (o : Option EntM) : ∃ (v : Int) (b : Bool), getV o = .tuple #[.int .i64 v, .bool b] := by
  cases o with
  | none => exact ⟨_, _, rfl⟩
  | some x => exact ⟨_, _, rfl⟩
def DPlayAt (wb : World) (n : Nat) (most : Int) (g gx : Nat) (i : Value) (wr : World) : Prop := ∃ (k : Nat) (l : List EntM), k ≤ n ∧ k ≤ 60 ∧ i = .int .i64 k ∧ l.length ≤ k ∧ BothD wb wr most l g gx (1 + 2 * k) (2 * k)

set_option maxRecDepth 100000 in
set_option maxHeartbeats 8000000 in
theorem law_dplays (n : Int) (hn : i64b n) (s : SlV) (xs : List DActM) (w : World) (hs : DActs w s xs) :
    Calls Try.prog 16 #[.int .i64 n, .slice s.a s.len s.cap] w fun e w' => e = .returned (.bool true) ∧ Fr noB w w' := by
  obtain ⟨a, len, cap⟩ := s
  have hl : len = xs.length := hs.1
  have hm : len ≤ maxLen := hs.2.1
  unfold maxLen at hm
  have Hs := hide hs; have Hl := hide hl
  clear hs hl
  simp only
  go_enter Try.func16, Try.ntmps16
  go_wp2_with fail
  refine (dir_new w n hn).mono ?_
  rintro e w1 ⟨g, rfl, hr, hf1⟩
  have Hr := hide hr; have Hf1 := hide hf1
  clear hr hf1
  go_wp2_with fail
  refine (doc10_new w1 n hn).mono ?_
  rintro e w2 ⟨gx, rfl, hd, hf2⟩
  have HB := hide (bothD_new (max_i64 hn).1 Hr.out Hf1.out hd hf2)
  have Hmost := hide (max_i64 hn)
  generalize max n 0 = most at *
  clear Hr Hf1 hd hf2
  go_wp2_with fail
  go_loopw [7] (DPlayAt w xs.length most g gx) (fun i _ => len - (intOf i).toNat)
  case atStart => exact ⟨0, [], Nat.zero_le _, by omega, rfl, Nat.le_refl _, HB.out⟩
  case round =>
    obtain ⟨k, l, hk, hk60, rfl, hlen, hb⟩ := hrel
    have Hb := hide hb
    clear hb HB
    by_cases hgo : k < len ∧ k < 60
    · obtain ⟨hlt, h60⟩ := hgo
      have hk2 : k < xs.length := by have := Hl.out; omega
      have hx : xs[k]? = some xs[k] := List.getElem?_eq_getElem hk2
      obtain ⟨b, o, rfl, hbw, hc, hwf⟩ := SlOf.at (SlOf.fr Hs.out Hb.out.1 (fun _ _ h => h) (fun _ h => h)) hx
      generalize xs[k] = x at *
      have hmul : ((k : Int) * 4).toNat = k * 4 := by omega
      have Hc := hide (show CellsAt wr b (o + k * 4) x.cells from hc); have Hwf := hide hwf
      clear hx hk hc hwf
      go_upto_region 7 with (fail)
      refine wp_region_mix2 6 (fun W => ∃ z : Grow wr, W = z.v) (by kernel_rfl) (by kernel_rfl) (inGrow (Fr.refl _ _).drew) ?_
      simp only [List.take_succ_cons, List.take_zero, List.drop_succ_cons, List.drop_zero]
      iterate 5 (first | (refine wpMix_skip rfl ?_; simp only [Act.put, List.setIfInBounds_toArray, List.set_cons_succ, List.set_cons_zero]) | (refine wpMix_calm rfl rfl (fun K hK => ?_); go_big_quiet_op; refine hK _ ?_; clear hK K))
      refine wpMix_load_atw rfl 63 (.tmp 28) rfl b (o + k * 4) rfl x.cells (fun W hW => by obtain ⟨z, rfl⟩ := hW; exact Hc.out.fr z.fr (fun h => h)) _ Try.underlying63 rfl (by kernel_rfl) ?_
      simp only [Act.put, List.setIfInBounds_toArray, List.set_cons_succ, List.set_cons_zero]
      refine wpMix_nil ?_
      refine wpList_plain rfl (fun K hK => ?_)
      go_wp2_with fail
      refine (law_act w _ most Hmost.out l g gx _ _ (Hb.out.fr (Fr.refl noB _).drew) (by omega) (by omega) (by omega) x Hwf.out).mono ?_
      rintro e w4 ⟨rfl, hb4⟩
      have hlen4 : (actL most l x).length ≤ k + 1 := Nat.le_trans (actL_len most l x) (by omega)
      generalize actL most l x = l' at *
      have Hb4 := hide hb4
      obtain ⟨_, _, ⟨_, _, D, G, hdr, hdoc, _⟩, _⟩ := hb4
      obtain ⟨⟨⟨pa, pl, pc⟩, sv, hblk, hop, _⟩, _⟩ := hdoc
      have hpl : pl = l'.length := hop.1
      have c0 : ∀ z : Grow w4, z.v.cell? ⟨gx, 0, none⟩ = some (.slice pa pl pc) := fun z => by rw [(hblk.fr z.fr (fun h => h)).cell 0]; rfl
      have Hdr := hide hdr; have Hop := hide hop; have Hpl := hide hpl; have Hl4 := hide hlen4
      have hpl61 : pl ≤ 61 := by omega
      have hnn : ownN l' ≤ 122 := by have := ownN_le l'; omega
      obtain ⟨nn, hnn2⟩ : ∃ nn, ownN l' = nn := ⟨_, rfl⟩
      have Hnn := hide hnn2
      rw [hnn2] at hnn
      clear hdr hop hpl hblk hlen4 hnn2
      refine hK _ _ ⟨rfl, (fun W => ∃ z : Grow w4, W = z.v), inGrow (Fr.refl _ _), ?_⟩
      clear hK K
      iterate 3 (first | (refine wpMix_skip rfl ?_; simp only [Act.put, List.setIfInBounds_toArray, List.set_cons_succ, List.set_cons_zero]) | (refine wpMix_calm rfl rfl (fun K hK => ?_); go_big_quiet_op; refine hK _ ?_; clear hK K))
      refine wpMix_spine rfl rfl (fun K hK => ?_); go_wp2_with fail
      refine (dir_blocks w4 D g most l' _ _ Hdr.out).mono ?_
      rintro e w5 ⟨rfl, rfl⟩
      rw [Hnn.out]
      refine hK _ _ rfl (inGrow (Fr.refl _ _)) ?_
      clear hK K
      iterate 5 (first | (refine wpMix_skip rfl ?_; simp only [Act.put, List.setIfInBounds_toArray, List.set_cons_succ, List.set_cons_zero]) | (refine wpMix_calm rfl rfl (fun K hK => ?_); go_big_quiet_op; refine hK _ ?_; clear hK K))
      refine wpMix_spine rfl rfl (fun K hK => ?_); go_wp2_with fail
      refine (ref_owned w5 ⟨pa, pl, pc⟩ l' Hop.out (by have := Hl4.out; omega) (fun x hx => (Hdr.out.trie.2 x hx).2)).mono ?_
      rintro e w6 ⟨rfl, hf6⟩
      rw [Hnn.out]
      have Hf6 := hide hf6
      refine hK _ _ rfl (inGrow hf6) ?_
      clear hK K hf6
      iterate 4 (first | (refine wpMix_skip rfl ?_; simp only [Act.put, List.setIfInBounds_toArray, List.set_cons_succ, List.set_cons_zero]) | (refine wpMix_calm rfl rfl (fun K hK => ?_); go_big_quiet_op; refine hK _ ?_; clear hK K))
      refine wpMix_spine rfl rfl (fun K hK => ?_); go_wp2_with fail
      refine (dir_len w6 D g most l' _ _ (Hdr.out.fr Hf6.out (fun _ _ h => h))).mono ?_
      rintro e w7 ⟨rfl, rfl⟩
      rw [← Hpl.out]
      refine hK _ _ rfl (inGrow Hf6.out) ?_
      clear hK K
      repeat (first | (refine wpMix_skip rfl ?_; simp only [Act.put, List.setIfInBounds_toArray, List.set_cons_succ, List.set_cons_zero]) | (refine wpMix_calm rfl rfl (fun K hK => ?_); go_big_quiet_op; refine hK _ ?_; clear hK K))
      refine wpMix_nil ?_
      clear c0
      go_wp2_with fail
      go_roundw
      case rel => exact ⟨k + 1, l', by omega, by omega, by go_num, Hl4.out, (Hb4.out.fr Hf6.out).up (by omega) (by omega) (by omega)⟩
      case measure => simp [intOf]; omega
    · have hstop : (k < len ∧ ¬ k < 60) ∨ ¬ k < len := by omega
      clear hgo
      rcases hstop with ⟨h1, h2⟩ | h1
      all_goals
        go_wp2_with fail
        refine (dir_known wr).mono ?_
        rintro e w4 ⟨rfl, hf4⟩
        have Hf4 := hide (Hb.out.1.tr hf4)
        clear hf4
        go_wp2_with fail
        go_ret
        exact ⟨rfl, Hf4.out⟩
end Go.Proofs.Ytgjabgneapdbiaa
