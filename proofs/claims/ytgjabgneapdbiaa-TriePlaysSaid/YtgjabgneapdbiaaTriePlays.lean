/- The helper alike; the law TriePlays, walked: it returns true. -/
import Derived.Test.YtgjabgneapdbiaaTrieDocNodes
namespace Go.Proofs.Ytgjabgneapdbiaa
open Go.RowKit Go.BigFrame
set_option linter.unusedSimpArgs false
set_option linter.unusedVariables false
attribute [local irreducible] wpMix wpAnyG

set_option maxRecDepth 100000 in
set_option maxHeartbeats 2000000 in
theorem law_alike (w : World) (F G : Nat → Prop) (g gx : Nat) (ty : TypeId) (rest : List Value) (l : List EntM) (m : Nat) (ht : Trie w F g l m) (hd : DocT w G gx ty rest l) :
    Calls Try.prog 38 #[.pointer (some ⟨g, 0, none⟩), .pointer (some ⟨gx, 0, none⟩)] w fun e w' => e = .returned (.bool true) ∧ Fr noB w w' := by
  have Ht := hide ht; have Hd := hide hd
  have hlen := hd.len
  obtain ⟨⟨⟨pa, pl, pc⟩, ⟨va, vl, vc⟩, hblk, hop, _⟩, _⟩ := hd
  have hpl : pl = l.length := hop.1
  have Hop := hide (slof_map (f := fun x : EntM => x.p) (cells := PrefixM.cells) (show SlOf w 2 (fun x : EntM => x.p.cells) (fun _ => True) ⟨pa, pl, pc⟩ l from hop.slof pcE_length (fun _ _ => trivial)))
  have Hblk := hide hblk
  obtain ⟨n, hn⟩ : ∃ n, l.length = n := ⟨_, rfl⟩
  rw [hn] at hpl
  subst hpl
  have Hn := hide hn
  have hn1 : pl ≤ 1000 := by omega
  have hll : ((pl : Int) == (pl : Int)) = true := by simp
  generalize hnn : nodesN (l.map (·.p)) = nn
  have Hnn := hide hnn
  have hnl : ((nn : Int) == (nn : Int)) = true := by simp
  clear ht hblk hop hn hnn hlen
  go_enter Try.func38, Try.ntmps38
  go_upto_region 1 with (fail)
  have hg0 : ∀ z : Grow w, z.v.cell? ⟨gx, 0, none⟩ = some (.slice pa pl pc) := fun z => by rw [(Hblk.out.fr z.fr (fun h => h)).cell 0]; rfl
  refine wp_region_mix (fun W => ∃ z : Grow w, W = z.v) (by kernel_rfl) (by kernel_rfl) (inGrow (Fr.refl _ _).drew) ?_
  (first | (refine wpMix_skip rfl ?_; simp only [Act.put, List.setIfInBounds_toArray, List.set_cons_succ, List.set_cons_zero]) | (refine wpMix_calm rfl rfl (fun K hK => ?_); go_big_quiet_op; refine hK _ ?_; clear hK K))
  refine wpMix_spine rfl rfl (fun K hK => ?_); go_wp2_with fail
  refine (trie_Walk w.drew F g l m (Ht.out.frN (Fr.refl noB w).drew)).mono ?_
  rintro e w1 ⟨s1, rfl, hn1, f1⟩
  have f1 : Fr noB w w1 := (Fr.refl _ _).drew.tr f1
  have F1 := hide f1; have Hn1 := hide hn1
  refine hK _ _ rfl (inGrow f1) ?_
  clear hK K f1 hn1
  iterate 4 (first | (refine wpMix_skip rfl ?_; simp only [Act.put, List.setIfInBounds_toArray, List.set_cons_succ, List.set_cons_zero]) | (refine wpMix_calm rfl rfl (fun K hK => ?_); go_big_quiet_op; refine hK _ ?_; clear hK K))
  refine wpMix_spine rfl rfl (fun K hK => ?_); go_wp2_with fail
  refine (law_prefixes s1 _ ⟨pa, pl, pc⟩ _ w1 (Hn1.out.slof PrefixM.length (fun _ _ => trivial)) (SlOf.fr Hop.out F1.out (fun _ _ h => h) (fun _ h => h))).mono ?_
  rintro e w2 ⟨rfl, f2⟩
  rw [decide_eq_true rfl]
  have F2 := hide (F1.out.tr f2)
  refine hK _ _ rfl (inGrow F2.out) ?_
  clear hK K f2
  iterate 2 (first | (refine wpMix_skip rfl ?_; simp only [Act.put, List.setIfInBounds_toArray, List.set_cons_succ, List.set_cons_zero]) | (refine wpMix_calm rfl rfl (fun K hK => ?_); go_big_quiet_op; refine hK _ ?_; clear hK K))
  refine wpMix_spine rfl rfl (fun K hK => ?_); go_wp2_with fail
  refine (trie_len w2 F g l m (Ht.out.frN F2.out)).mono ?_
  rintro e w3 ⟨rfl, rfl⟩
  rw [Hn.out]
  refine hK _ _ rfl (inGrow F2.out) ?_
  clear hK K
  iterate 9 (first | (refine wpMix_skip rfl ?_; simp only [Act.put, List.setIfInBounds_toArray, List.set_cons_succ, List.set_cons_zero]) | (refine wpMix_calm rfl rfl (fun K hK => ?_); go_big_quiet_op; refine hK _ ?_; clear hK K))
  refine wpMix_spine rfl rfl (fun K hK => ?_); go_wp2_with fail
  refine (trie_nodes w3 F g l m (Ht.out.frN F2.out)).mono ?_
  rintro e w4 ⟨rfl, f4⟩
  rw [Hnn.out]
  have F4 := hide (F2.out.tr f4)
  refine hK _ _ rfl (inGrow F4.out) ?_
  clear hK K f4
  iterate 1 (first | (refine wpMix_skip rfl ?_; simp only [Act.put, List.setIfInBounds_toArray, List.set_cons_succ, List.set_cons_zero]) | (refine wpMix_calm rfl rfl (fun K hK => ?_); go_big_quiet_op; refine hK _ ?_; clear hK K))
  refine wpMix_spine rfl rfl (fun K hK => ?_); go_wp2_with fail
  refine (doc_nodes w4 G gx ty rest l (Hd.out.frN F4.out) Ht.out.sorted Ht.out.ok).mono ?_
  rintro e w5 ⟨rfl, f5⟩
  rw [Hnn.out]
  have F5 := hide (F4.out.tr f5)
  refine hK _ _ rfl (inGrow F5.out) ?_
  clear hK K f5
  repeat (first | (refine wpMix_skip rfl ?_; simp only [Act.put, List.setIfInBounds_toArray, List.set_cons_succ, List.set_cons_zero]) | (refine wpMix_calm rfl rfl (fun K hK => ?_); go_big_quiet_op; refine hK _ ?_; clear hK K))
  refine wpMix_nil ?_
  clear hg0
  go_wp2_with fail
  go_ret
  exact ⟨rfl, F5.out⟩

theorem getV_two (o : Option EntM) : ∃ (v : Int) (b : Bool), getV o = .tuple #[.int .i64 v, .bool b] := by
  cases o with
  | none => exact ⟨_, _, rfl⟩
  | some x => exact ⟨_, _, rfl⟩
theorem BothT.sorted {wb w : World} {l : List EntM} {g gx m : Nat} (h : BothT wb w l g gx m) : SortedE l := by
  obtain ⟨_, F, G, h1, _⟩ := h
  exact h1.sorted

set_option maxRecDepth 100000 in
set_option maxHeartbeats 8000000 in
theorem law_plays (s : SlV) (xs : List TActM) (w : World) (hs : TActs w s xs) :
    Calls Try.prog 8 #[.slice s.a s.len s.cap] w fun e w' => e = .returned (.bool true) ∧ Fr noB w w' := by
  obtain ⟨a, len, cap⟩ := s
  have hl : len = xs.length := hs.1
  have hm : len ≤ maxLen := hs.2.1
  unfold maxLen at hm
  have Hs := hide hs; have Hl := hide hl
  clear hs hl
  simp only
  go_enter Try.func8, Try.ntmps8
  go_wp2_with fail
  refine (trie_new _).mono ?_
  rintro e w1 ⟨g, rfl, hr, hf1⟩
  have hb0 := both_new hr hf1
  have Hb0 := hide hb0
  clear hr hf1 hb0
  go_upto_region 2 with (fail)
  refine wp_gen (fun W => BothT w W [] g w1.heap.size 1) Hb0.out ?_
  rintro w2 hb2
  obtain ⟨gx, hgx⟩ : ∃ gx, w1.heap.size = gx := ⟨_, rfl⟩
  rw [hgx] at hb2 ⊢
  have HB := hide hb2
  clear hb2 hgx Hb0
  go_wp2_with fail
  go_loopw [5] (LaidAt w xs.length g gx) (fun i _ => len - (intOf i).toNat)
  case atStart => exact ⟨0, [], Nat.zero_le _, by omega, rfl, Nat.le_refl _, HB.out⟩
  case round =>
    obtain ⟨k, l, hk, hk80, rfl, hlen, hb⟩ := hrel
    have Hb := hide hb
    clear hb HB
    by_cases hgo : k < len ∧ k < 80
    · obtain ⟨hlt, h80⟩ := hgo
      have hk2 : k < xs.length := by have := Hl.out; omega
      have hx : xs[k]? = some xs[k] := List.getElem?_eq_getElem hk2
      obtain ⟨b, o, rfl, hbw, hc, hwf⟩ := SlOf.at Hs.out hx
      generalize xs[k] = x at *
      have hmul : ((k : Int) * 4).toNat = k * 4 := by omega
      have Hcp0 := hide (show CellsAt w b (o + k * 4 + 1) x.p.cells from cells_pre (ds := [.int .i64 x.v]) (by have h := cells_part hc 1; exact h))
      have Hcv0 := hide (show CellsAt w b (o + k * 4 + 3) [.int .i64 x.v] from cells_part hc 3)
      have hcd0 : w.cell? ⟨b, o + k * 4, none⟩ = some (.bool x.del) := by have := hc 0 _ rfl; simpa using this
      have Hwf := hide (show x.p.wf from hwf.1)
      obtain ⟨hfb, F, G, htr, hdoc, hF1, hF2, hF3⟩ := Hb.out
      have cd : wr.cell? ⟨b, o + k * 4, none⟩ = some (.bool x.del) := (hfb.cell hbw (fun h => h)).trans hcd0
      have Hfb := hide hfb; have Htr := hide htr; have Hdoc := hide hdoc; have HF1 := hide hF1; have HF2 := hide hF2; have HF3 := hide hF3
      have Hcp := hide (Hcp0.out.fr hfb (fun h => h)); have Hcv := hide (Hcv0.out.fr hfb (fun h => h))
      clear hfb htr hdoc hF1 hF2 hF3 hx hk hc hwf hcd0
      cases hdel : x.del
      case' true =>
        rw [hdel] at cd
        go_upto_region 8 with (fail)
        clear cd
        refine wp_region_mix (fun W => ∃ z : GrowS (fun b => w.heap.size ≤ b) wr, W = z.v) (by kernel_rfl) (by kernel_rfl) (inGrowS (Fr.refl _ _).drew) ?_
        iterate 5 (first | (refine wpMix_skip rfl ?_; simp only [Act.put, List.setIfInBounds_toArray, List.set_cons_succ, List.set_cons_zero]) | (refine wpMix_calm rfl rfl (fun K hK => ?_); go_big_quiet_op; refine hK _ ?_; clear hK K))
        refine wpMix_load_atw rfl 28 (.tmp 34) rfl b (o + k * 4 + 1) (by go_simp) x.p.cells (fun W hW => by obtain ⟨z, rfl⟩ := hW; exact Hcp.out.fr z.fr (fun h => by omega)) _ Try.underlying28 rfl (by kernel_rfl) ?_
        simp only [Act.put, List.setIfInBounds_toArray, List.set_cons_succ, List.set_cons_zero]
        refine wpMix_spine rfl rfl (fun K hK => ?_); go_wp2_with fail
        refine (trie_delX wr.drew F g l _ (Htr.out.frN (Fr.refl noB wr).drew) x.p Hwf.out).mono ?_
        rintro e w4 ⟨rfl, hr4, hf4⟩
        have hf4' : Fr F wr w4 := (Fr.refl F wr).drew.tr hf4
        have hr4' : Trie w4 (gr F wr w4) g (delE l x.p) (1 + 2 * k) := hr4
        refine hK _ _ rfl (inGrowS (hf4'.mono (fun b _ hb => HF2.out b hb))) ?_
        clear hK K
        have Hr4 := hide hr4'; have Hf4 := hide hf4'
        clear hr4 hr4' hf4 hf4'
        iterate 5 (first | (refine wpMix_skip rfl ?_; simp only [Act.put, List.setIfInBounds_toArray, List.set_cons_succ, List.set_cons_zero]) | (refine wpMix_calm rfl rfl (fun K hK => ?_); go_big_quiet_op; refine hK _ ?_; clear hK K))
        refine wpMix_load_atw rfl 28 (.tmp 41) rfl b (o + k * 4 + 1) (by go_simp) x.p.cells (fun W hW => by obtain ⟨z, rfl⟩ := hW; exact Hcp.out.fr z.fr (fun h => by omega)) _ Try.underlying28 rfl (by kernel_rfl) ?_
        simp only [Act.put, List.setIfInBounds_toArray, List.set_cons_succ, List.set_cons_zero]
        refine wpMix_spine rfl rfl (fun K hK => ?_); go_wp2_with fail
        refine (doc_del w4 G gx _ [] l (Hdoc.out.fr Hf4.out (fun b hb hb2 => HF1.out b hb2 hb)) x.p).mono ?_
        rintro e w5 ⟨rfl, hd5, hf5⟩
        refine hK _ _ rfl (inGrowS (Fr.trans Hf4.out hf5 (fun b _ h => HF2.out b h) (fun b _ h => HF3.out b h))) ?_
        clear hK K
        have HB5 := hide ((both_stepT Hfb.out Hdoc.out HF1.out HF2.out HF3.out Hr4.out Hf4.out hd5 hf5).up (show 1 + 2 * k ≤ 1 + 2 * (k + 1) by omega))
        have hlen' : (delE l x.p).length ≤ k + 1 := Nat.le_trans (delE_len _ _) (by omega)
        generalize delE l x.p = l' at *
        generalize hasE l x.p = h' at *
        have hne : (h' != h') = false := by simp
        clear hd5 hf5 Hr4 Hf4
        repeat (first | (refine wpMix_skip rfl ?_; simp only [Act.put, List.setIfInBounds_toArray, List.set_cons_succ, List.set_cons_zero]) | (refine wpMix_calm rfl rfl (fun K hK => ?_); go_big_quiet_op; refine hK _ ?_; clear hK K))
        refine wpMix_nil ?_
        clear hne
      case' false =>
        rw [hdel] at cd
        go_upto_region 10 with (fail)
        clear cd
        have hcv : ∀ z : GrowS (fun b => w.heap.size ≤ b) wr, z.v.cell? ⟨b, o + k * 4 + 3, none⟩ = some (.int .i64 x.v) := fun z => by have := Hcv.out.fr z.fr (fun h => by omega) 0 _ rfl; simpa using this
        refine wp_region_mix (fun W => ∃ z : GrowS (fun b => w.heap.size ≤ b) wr, W = z.v) (by kernel_rfl) (by kernel_rfl) (inGrowS (Fr.refl _ _).drew) ?_
        iterate 5 (first | (refine wpMix_skip rfl ?_; simp only [Act.put, List.setIfInBounds_toArray, List.set_cons_succ, List.set_cons_zero]) | (refine wpMix_calm rfl rfl (fun K hK => ?_); go_big_quiet_op; refine hK _ ?_; clear hK K))
        refine wpMix_load_atw rfl 28 (.tmp 49) rfl b (o + k * 4 + 1) (by go_simp) x.p.cells (fun W hW => by obtain ⟨z, rfl⟩ := hW; exact Hcp.out.fr z.fr (fun h => by omega)) _ Try.underlying28 rfl (by kernel_rfl) ?_
        simp only [Act.put, List.setIfInBounds_toArray, List.set_cons_succ, List.set_cons_zero]
        iterate 5 (first | (refine wpMix_skip rfl ?_; simp only [Act.put, List.setIfInBounds_toArray, List.set_cons_succ, List.set_cons_zero]) | (refine wpMix_calm rfl rfl (fun K hK => ?_); go_big_quiet_op; refine hK _ ?_; clear hK K))
        refine wpMix_spine rfl rfl (fun K hK => ?_); go_wp2_with fail
        refine (trie_setX wr.drew F g l _ (Htr.out.frN (Fr.refl noB wr).drew) (by omega) x.p Hwf.out x.v).mono ?_
        rintro e w4 ⟨rfl, hr4, hf4⟩
        have hf4' : Fr F wr w4 := (Fr.refl F wr).drew.tr hf4
        have hr4' : Trie w4 (gr F wr w4) g (setX l x.p x.v).l (1 + 2 * k + 2) := hr4
        refine hK _ _ rfl (inGrowS (hf4'.mono (fun b _ hb => HF2.out b hb))) ?_
        clear hK K
        have Hr4 := hide hr4'; have Hf4 := hide hf4'
        clear hr4 hr4' hf4 hf4'
        iterate 5 (first | (refine wpMix_skip rfl ?_; simp only [Act.put, List.setIfInBounds_toArray, List.set_cons_succ, List.set_cons_zero]) | (refine wpMix_calm rfl rfl (fun K hK => ?_); go_big_quiet_op; refine hK _ ?_; clear hK K))
        refine wpMix_load_atw rfl 28 (.tmp 61) rfl b (o + k * 4 + 1) (by go_simp) x.p.cells (fun W hW => by obtain ⟨z, rfl⟩ := hW; exact Hcp.out.fr z.fr (fun h => by omega)) _ Try.underlying28 rfl (by kernel_rfl) ?_
        simp only [Act.put, List.setIfInBounds_toArray, List.set_cons_succ, List.set_cons_zero]
        iterate 5 (first | (refine wpMix_skip rfl ?_; simp only [Act.put, List.setIfInBounds_toArray, List.set_cons_succ, List.set_cons_zero]) | (refine wpMix_calm rfl rfl (fun K hK => ?_); go_big_quiet_op; refine hK _ ?_; clear hK K))
        refine wpMix_spine rfl rfl (fun K hK => ?_); go_wp2_with fail
        refine (doc_set w4 G gx _ [] l (Hdoc.out.fr Hf4.out (fun b hb hb2 => HF1.out b hb2 hb)) (by omega) x.p Hwf.out x.v).mono ?_
        rintro e w5 ⟨rfl, hd5, hf5⟩
        refine hK _ _ rfl (inGrowS (Fr.trans Hf4.out hf5 (fun b _ h => HF2.out b h) (fun b _ h => HF3.out b h))) ?_
        clear hK K
        have HB5 := hide ((both_stepT Hfb.out Hdoc.out HF1.out HF2.out HF3.out Hr4.out Hf4.out hd5 hf5).up (show 1 + 2 * k + 2 ≤ 1 + 2 * (k + 1) by omega))
        have hlen' : (setX l x.p x.v).l.length ≤ k + 1 := Nat.le_trans (setX_len _ _ _) (by omega)
        generalize (setX l x.p x.v).l = l' at *
        generalize (setX l x.p x.v).e = h' at *
        have hne : (h' != h') = false := by simp
        clear hd5 hf5 Hr4 Hf4
        repeat (first | (refine wpMix_skip rfl ?_; simp only [Act.put, List.setIfInBounds_toArray, List.set_cons_succ, List.set_cons_zero]) | (refine wpMix_calm rfl rfl (fun K hK => ?_); go_big_quiet_op; refine hK _ ?_; clear hK K))
        refine wpMix_nil ?_
        clear hne hcv
      all_goals
        clear Hcp Hcv Hfb Htr Hdoc HF1 HF2 HF3
        obtain ⟨hfb, F, G, htr, hdoc, hF1, hF2, hF3⟩ := HB5.out
        have Hfb := hide hfb; have Htr := hide htr; have Hdoc := hide hdoc
        have hcp5 := Hcp0.out.fr hfb (fun h => h)
        obtain ⟨vv, bb, hvb⟩ := getV_two (getE l' x.p)
        have Hvb := hide hvb
        have hv1 : (vv != vv) = false := by simp
        have hv2 : (bb != bb) = false := by cases bb <;> rfl
        clear hfb htr hdoc hF1 hF2 hF3 hvb
        go_wp2_with (refine wpList_load_atw rfl 28 (.tmp 75) rfl b (o + k * 4 + 1) (by go_simp) x.p.cells hcp5 _ Try.underlying28 rfl (by kernel_rfl) ?_)
        refine (trie_get w5 F g l' _ Htr.out x.p Hwf.out).mono ?_
        rintro e w6 ⟨rfl, hf6⟩
        rw [Hvb.out]
        have hcp6 := hcp5.fr hf6 (fun h => h)
        have Hf6 := hide hf6
        clear hf6 hcp5
        go_wp2_with (refine wpList_load_atw rfl 28 (.tmp 85) rfl b (o + k * 4 + 1) (by go_simp) x.p.cells hcp6 _ Try.underlying28 rfl (by kernel_rfl) ?_)
        refine (doc_get w6 G gx _ [] l' (Hdoc.out.frN Hf6.out) Htr.out.sorted x.p).mono ?_
        rintro e w7 ⟨rfl, hf7⟩
        rw [Hvb.out]
        have Hf7 := hide (Hf6.out.tr hf7)
        clear hf7 hcp6
        go_wp2_with fail
        refine (law_alike w7 F G g gx _ [] l' _ (Htr.out.frN Hf7.out) (Hdoc.out.frN Hf7.out)).mono ?_
        rintro e w8 ⟨rfl, hf8⟩
        have HB8 := hide (HB5.out.fr (Hf7.out.tr hf8))
        clear hf8
        go_wp2_with fail
        go_roundw
        case rel => exact ⟨k + 1, l', by omega, by omega, by go_num, by omega, HB8.out⟩
        case measure => simp [intOf]; omega
    · have hstop : (k < len ∧ ¬ k < 80) ∨ ¬ k < len := by omega
      clear hgo
      rcases hstop with ⟨h1, h2⟩ | h1
      all_goals
        go_wp2_with fail
        refine (law_known wr).mono ?_
        rintro e w4 ⟨rfl, hf4⟩
        have Hf4 := hide (Hb.out.1.tr hf4)
        clear hf4
        go_wp2_with fail
        go_ret
        exact ⟨rfl, Hf4.out⟩
end Go.Proofs.Ytgjabgneapdbiaa
