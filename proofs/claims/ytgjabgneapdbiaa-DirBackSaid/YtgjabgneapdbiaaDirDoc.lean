/- The document's answer to chapter 10: New, Look. -/
import Derived.Test.YtgjabgneapdbiaaDirX
import Derived.Test.YtgjabgneapdbiaaDirDocSet
import Derived.Test.YtgjabgneapdbiaaDirDocO
import Derived.Test.YtgjabgneapdbiaaDirNew
import Derived.Test.YtgjabgneapdbiaaTrieDocLong
import Derived.Test.YtgjabgneapdbiaaTrieSetLaw
namespace Go.Proofs.Ytgjabgneapdbiaa
open Go.RowKit Go.BigFrame
set_option linter.unusedSimpArgs false
set_option linter.unusedVariables false
attribute [local irreducible] wpMix wpAnyG

abbrev DocD (w : World) (G : Nat → Prop) (g : Nat) (most : Int) (l : List EntM) : Prop := DocT w G g 76 [.int .i64 most] l
theorem doc10_new (w : World) (n : Int) (hn : i64b n) : Calls Try.prog 45 #[.int .i64 n] w fun e w' => ∃ g, e = .returned (.pointer (some ⟨g, 0, none⟩)) ∧ DocD w' (newF w w') g (max n 0) [] ∧ Fr noB w w' := by
  have hmx := run_max_int Try.prog
  go_enter Try.func45, Try.ntmps45
  go_wp2_with fail
  go_ret
  have e : max 0 n = max n 0 := by omega
  rw [e]
  refine ⟨_, rfl, ⟨⟨⟨none, 0, 0⟩, ⟨none, 0, 0⟩, Blk.alloc_new w #[.slice none 0 0, .slice none 0 0, .int .i64 (max n 0)] 76, OwnL.nil _ _ _ _, OwnL.nil _ _ _ _, ?_, ?_⟩, by decide, ⟨Nat.le_refl _, by simp⟩, fun b hb => hb.2, by simp⟩, (Fr.refl _ _).alloc _⟩
  · rintro b ⟨a, ha, _⟩; simp at ha
  · rintro b ⟨a, ha, _⟩; simp at ha
theorem long_get (o : Option EntM) : ∃ (q : PrefixM) (v : Int) (b : Bool), longV o = .tuple #[.agg q.cells.toArray, .int .i64 v, .bool b] ∧ getV o = .tuple #[.int .i64 v, .bool b] := by
  cases o with
  | none => exact ⟨_, _, _, rfl, rfl⟩
  | some x => exact ⟨_, _, _, rfl, rfl⟩
set_option maxRecDepth 100000 in
set_option maxHeartbeats 2000000 in
theorem doc10_look (w : World) (G : Nat → Prop) (g : Nat) (most : Int) (l : List EntM) (h : DocD w G g most l) (hs : SortedE l) (hok : ∀ x ∈ l, okP x.p) (a : Nat) (ha : a < 4294967296) :
    Calls Try.prog 48 #[.pointer (some ⟨g, 0, none⟩), .int .u32 (a : Nat)] w fun e w' => e = .returned (getV (longE l a)) ∧ Fr noB w w' := by
  have H := hide h; have Hs := hide hs; have Hok := hide hok
  obtain ⟨q, v, b, h1, h2⟩ := long_get (longE l a)
  have H1 := hide h1; have H2 := hide h2
  have hgl := h.lt g h.here
  clear h hs hok h1 h2
  go_enter Try.func48, Try.ntmps48
  go_wp2_with fail
  refine (doc_long w G g _ _ l H.out Hs.out Hok.out a ha).mono ?_
  rintro e w1 ⟨rfl, hf1⟩
  rw [H1.out]
  have Hf1 := hide hf1
  clear hf1
  go_upto_region 2 with (refine wpList_store_new rfl 28 _ _ rfl _ _ (PrefixM.cells _) _ rfl rfl (by simp) (by kernel_rfl) rfl (by kernel_rfl) ?_)
  refine wp_gen (fun W => Fr noB w W) (Hf1.out.alloc _) ?_
  intro w2 hf2
  have Hf2 := hide hf2
  clear hf2
  go_wp2_with fail
  go_ret2
  exact ⟨by rw [H2.out]; rfl, Hf2.out⟩

set_option maxRecDepth 100000 in
set_option maxHeartbeats 8000000 in
theorem doc10_set (w : World) (G : Nat → Prop) (g : Nat) (most : Int) (l : List EntM) (h : DocD w G g most l) (hs : SortedE l) (hok : ∀ x ∈ l, okP x.p) (hown : (ownN l : Int) ≤ most) (hm : l.length < 1000) (p : PrefixM) (hp : p.wf) (v : Int) :
    Calls Try.prog 69 #[.pointer (some ⟨g, 0, none⟩), .agg p.cells.toArray, .int .i64 v] w (DocTo w G g 76 [.int .i64 most] (docX most l p v).l (.int .i64 (docX most l p v).e)) := by
  have H := hide h; have Hs := hide hs; have Hok := hide hok; have Hown := hide hown; have Hm := hide hm; have Hp := hide hp
  obtain ⟨⟨⟨pa, pl, pc⟩, ⟨va, vl, vc⟩, hblk, hop, hov, hFp, hFv⟩, htys, hhere, hlt, hlen⟩ := h
  have Hblk := hide hblk; have Hop := hide hop; have Hov := hide hov; have HFp := hide hFp; have HFv := hide hFv; have Hnv := hide hov.nilcap
  have hgl := hlt g hhere
  have hvl : vl = l.length := hov.1
  have Hvl := hide hvl
  clear hblk hop hov hFp hFv htys hhere hlt hlen hs hok hown hm hp hvl
  go_enter Try.func69, Try.ntmps69
  go_upto_region 1 with (fail)
  refine wp_gen (fun W => CellsAt W w.heap.size 0 p.cells ∧ Fr noB w W) ⟨by (repeat (first | assumption | exact cells_new _ _ _ (by simp) | refine CellsAt.alloc ?_ _ | refine CellsAt.drew ?_ | refine CellsAt.drewN ?_ _)), (Fr.refl _ _).alloc _⟩ ?_
  rintro w1 ⟨hc1, hf1⟩
  have Hc1 := hide hc1; have Hf1 := hide hf1
  have Hb1 := hide (Hblk.out.fr hf1 (fun h => h))
  have hg0 : ∀ z : Grow w1, z.v.cell? ⟨g, 0, none⟩ = some (.slice pa pl pc) := fun z => by rw [(Hb1.out.fr z.fr (fun h => h)).cell 0]; rfl
  have hg1 : ∀ z : Grow w1, z.v.cell? ⟨g, 1, none⟩ = some (.slice va vl vc) := fun z => by rw [(Hb1.out.fr z.fr (fun h => h)).cell 1]; rfl
  clear hc1 hf1
  refine any_start (fun W => ∃ z : Grow w1, W = z.v) 15 rfl (by kernel_rfl) (inGrow (Fr.refl _ _).drew) ?_
  intro L hL hleaf
  have hS : ∃ z : Grow w1, w1.drew = z.v := inGrow (Fr.refl _ _).drew
  (refine any_calm 0 (by assumption) (by simp only [List.getElem?_toArray, List.getElem?_cons_succ, List.getElem?_cons_zero]; exact rfl) (by kernel_rfl) (by kernel_rfl) (by kernel_rfl) (by kernel_rfl) (by assumption) (by rfl) (by rfl) (fun K hK => ?_); go_big_quiet_op; refine hK _ ?_; clear hK K)
  (refine any_calm 1 (by assumption) (by simp only [List.getElem?_toArray, List.getElem?_cons_succ, List.getElem?_cons_zero]; exact rfl) (by kernel_rfl) (by kernel_rfl) (by kernel_rfl) (by kernel_rfl) (by assumption) (by rfl) (by rfl) (fun K hK => ?_); go_big_quiet_op; refine hK _ ?_; clear hK K)
  (refine any_calm 2 (by assumption) (by simp only [List.getElem?_toArray, List.getElem?_cons_succ, List.getElem?_cons_zero]; exact rfl) (by kernel_rfl) (by kernel_rfl) (by kernel_rfl) (by kernel_rfl) (by assumption) (by rfl) (by rfl) (fun K hK => ?_); go_big_quiet_op; refine hK _ ?_; clear hK K)
  (refine any_calm 3 (by assumption) (by simp only [List.getElem?_toArray, List.getElem?_cons_succ, List.getElem?_cons_zero]; exact rfl) (by kernel_rfl) (by kernel_rfl) (by kernel_rfl) (by kernel_rfl) (by assumption) (by rfl) (by rfl) (fun K hK => ?_); go_big_quiet_op; refine hK _ ?_; clear hK K)
  (refine any_calm 4 (by assumption) (by simp only [List.getElem?_toArray, List.getElem?_cons_succ, List.getElem?_cons_zero]; exact rfl) (by kernel_rfl) (by kernel_rfl) (by kernel_rfl) (by kernel_rfl) (by assumption) (by rfl) (by rfl) (fun K hK => ?_); go_big_quiet_op; refine hK _ ?_; clear hK K)
  (refine any_calm 6 (by assumption) (by simp only [List.getElem?_toArray, List.getElem?_cons_succ, List.getElem?_cons_zero]; exact rfl) (by kernel_rfl) (by kernel_rfl) (by kernel_rfl) (by kernel_rfl) (by assumption) (by rfl) (by rfl) (fun K hK => ?_); go_big_quiet_op; refine hK _ ?_; clear hK K)
  (refine any_calm 7 (by assumption) (by simp only [List.getElem?_toArray, List.getElem?_cons_succ, List.getElem?_cons_zero]; exact rfl) (by kernel_rfl) (by kernel_rfl) (by kernel_rfl) (by kernel_rfl) (by assumption) (by rfl) (by rfl) (fun K hK => ?_); go_big_quiet_op; refine hK _ ?_; clear hK K)
  (refine any_calm 8 (by assumption) (by simp only [List.getElem?_toArray, List.getElem?_cons_succ, List.getElem?_cons_zero]; exact rfl) (by kernel_rfl) (by kernel_rfl) (by kernel_rfl) (by kernel_rfl) (by assumption) (by rfl) (by rfl) (fun K hK => ?_); go_big_quiet_op; refine hK _ ?_; clear hK K)
  (refine any_calm 9 (by assumption) (by simp only [List.getElem?_toArray, List.getElem?_cons_succ, List.getElem?_cons_zero]; exact rfl) (by kernel_rfl) (by kernel_rfl) (by kernel_rfl) (by kernel_rfl) (by assumption) (by rfl) (by rfl) (fun K hK => ?_); go_big_quiet_op; refine hK _ ?_; clear hK K)
  (refine any_calm 10 (by assumption) (by simp only [List.getElem?_toArray, List.getElem?_cons_succ, List.getElem?_cons_zero]; exact rfl) (by kernel_rfl) (by kernel_rfl) (by kernel_rfl) (by kernel_rfl) (by assumption) (by rfl) (by rfl) (fun K hK => ?_); go_big_quiet_op; refine hK _ ?_; clear hK K)
  refine any_newapp (w0 := w1) (N := 1) (cells := vcE) (ok := fun _ => True) (q := ⟨va, vl, vc⟩) (ys := l) hL (by kernel_rfl) 5 11 12 13 14 13 19 20 7 18 12 rfl rfl rfl rfl rfl rfl rfl rfl rfl rfl rfl rfl rfl rfl rfl rfl rfl rfl rfl rfl (.slice pa pl pc) rfl
    (fun b W s hp hd => by
      unfold execOp
      refine exec_v (run_build W 50 _ #[.slice pa pl pc, .slice s.a s.len s.cap] ?_)
      simp only [List.map_toArray, List.map_cons, List.map_nil, hp, hd]
      kernel_rfl)
    (by kernel_rfl) (by kernel_rfl) (by kernel_rfl) (by kernel_rfl) (by kernel_rfl) (by kernel_rfl) (by kernel_rfl) (by kernel_rfl) (by kernel_rfl) (by kernel_rfl) (by kernel_rfl) (by kernel_rfl)
    (by decide) (by simp) (by simp) (by simp) (by simp) Try.underlying48 _ 8 int_info (by kernel_rfl) (by decide) vcE_length vcE_mem #[.slice none 0 0, .slice none 0 0] rfl (by kernel_rfl) rfl (by decide)
    rfl (fun W hW => OwnL.slof (Hov.out.fr (Hf1.out.tr hW) (fun _ _ h => h)) vcE_length (fun _ _ => trivial)) (fun h => by have := Hnv.out h; simp only [SlV.mk.injEq] at this; exact this.2.2) (by have := Hm.out; omega) (by have := Hm.out; unfold maxLen; omega) (Fr.refl _ _).drew ?_
  intro v0 sv' gx w2 hn2 hf2 hgx hB2
  simp only [Act.put, List.setIfInBounds_toArray, List.set_cons_succ, List.set_cons_zero]
  refine any_leaf (hleaf _ _ _ (by kernel_rfl) ?_)
  clear hL hleaf hS hg0 hg1
  obtain ⟨ta, tl, tc⟩ := sv'
  have F2 := hide (Hf1.out.tr hf2)
  have hs1 := Hf1.out.size
  have Hgx := hide (show w.heap.size ≤ gx by omega)
  have HN2 := hide (show OwnV w2 ⟨ta, tl, tc⟩ l from hn2.1)
  have HN2b := hide (show ∀ b, ownB ⟨ta, tl, tc⟩ b → w.heap.size ≤ b from fun b hb => Nat.le_trans hs1 (hn2.2 b hb))
  have HB2 := hide (show Blk w2 gx (.slice pa pl pc :: .slice ta tl tc :: []).toArray 50 from hB2)
  have hc2 : CellsAt w2 w.heap.size 0 p.cells := Hc1.out.fr hf2 (fun h => h)
  clear hn2 hB2 hf2 hgx hs1
  by_cases hv : v < 0
  · have HA := hide (show docX most l p v = ⟨1, l⟩ from by unfold docX; rw [if_neg (by omega)])
    go_wp2_with fail
    go_ret
    unfold DocTo
    rw [HA.out]
    exact ⟨rfl, H.out.same F2.out⟩
  · have HA0 := hide (show docX most l p v = if p = normP p then (if (ownN (putE l p v) : Int) ≤ most then ⟨0, putE l p v⟩ else ⟨6, l⟩) else ⟨1, l⟩ from by unfold docX; rw [if_pos (by omega)])
    go_wp2_with (refine wpList_load_atw rfl 28 (.tmp 4) rfl w.heap.size 0 rfl p.cells hc2 _ Try.underlying28 rfl (by kernel_rfl) ?_)
    refine (doc_setR w2 gx 50 [] l ⟨pa, pl, pc⟩ ⟨ta, tl, tc⟩ HB2.out (Hop.out.fr F2.out (fun _ _ h => h)) HN2.out (by decide) Hm.out p Hp.out v).mono ?_
    rintro e w3 ⟨rfl, hrows⟩
    obtain ⟨⟨⟨sa, sl, sc⟩, ⟨ua, ul, uc⟩, hb3, hp3, hv3, hbp, hbv⟩, hf3⟩ := hrows
    have Hb3 := hide hb3; have Hp3 := hide hp3; have Hv3 := hide hv3; have Hbp := hide hbp; have Hbv := hide hbv
    have HF3 := hide (show Fr noB w w3 from F2.out.trans hf3 (fun _ _ h => h) (fun b hb h => by
      rcases h with rfl | h
      · have := Hgx.out; omega
      · have := HN2b.out b h; omega))
    clear hb3 hp3 hv3 hbp hbv hf3 hc2
    by_cases hi : p = normP p
    · have HA := hide (show docX most l p v = if (ownN (putE l p v) : Int) ≤ most then ⟨0, putE l p v⟩ else ⟨6, l⟩ from by rw [HA0.out, if_pos hi])
      have hX : setX l p v = ⟨0, putE l p v⟩ := by unfold setX; rw [if_pos hi]
      rw [hX] at Hp3 Hv3 ⊢
      have Hpl := hide (putE_len l p v)
      have Hpo := hide (show ∀ x ∈ putE l p v, x.p.wf from fun x hx => (put_ok2 Hs.out Hok.out ⟨hi, Hp.out⟩ v x hx).2)
      generalize putE l p v = l' at *
      have Hblk3 := hide (Hblk.out.fr HF3.out (fun h => h))
      have hg2 : ∀ z : Grow w3, z.v.cell? ⟨g, 2, none⟩ = some (.int .i64 most) := fun z => by rw [(Hblk3.out.fr z.fr (fun h => h)).cell 2]; rfl
      have hgx0 : ∀ z : Grow w3, z.v.cell? ⟨gx, 0, none⟩ = some (.slice sa sl sc) := fun z => by rw [(Hb3.out.fr z.fr (fun h => h)).cell 0]; rfl
      have hon := ownN_le l'
      have hln : l'.length ≤ 1000 := by have := Hpl.out; have := Hm.out; omega
      have Hln := hide hln
      obtain ⟨n, hn⟩ : ∃ n, ownN l' = n := ⟨_, rfl⟩
      rw [hn] at HA
      have Hn := hide hn
      have hnb : n ≤ 2000 := by omega
      clear hi hX hn hon hln
      go_upto_region 4 with (fail)
      refine wp_region_mix (fun W => ∃ z : Grow w3, W = z.v) (by kernel_rfl) (by kernel_rfl) (inGrow (Fr.refl _ _).drew) ?_
      iterate 2 (first | (refine wpMix_skip rfl ?_; simp only [Act.put, List.setIfInBounds_toArray, List.set_cons_succ, List.set_cons_zero]) | (refine wpMix_calm rfl rfl (fun K hK => ?_); go_big_quiet_op; refine hK _ ?_; clear hK K))
      refine wpMix_spine rfl rfl (fun K hK => ?_); go_wp2_with fail
      refine (ref_owned w3.drew ⟨sa, sl, sc⟩ l' (Hp3.out.fr (Fr.refl noB w3).drew (fun _ _ h => h)) Hln.out Hpo.out).mono ?_
      rintro e w4 ⟨rfl, hf4⟩
      rw [Hn.out]
      have Hf4 := hide ((Fr.refl noB w3).drew.tr hf4)
      refine hK _ _ rfl (inGrow Hf4.out) ?_
      clear hK K hf4
      iterate 5 (first | (refine wpMix_skip rfl ?_; simp only [Act.put, List.setIfInBounds_toArray, List.set_cons_succ, List.set_cons_zero]) | (refine wpMix_calm rfl rfl (fun K hK => ?_); go_big_quiet_op; refine hK _ ?_; clear hK K))
      have HF4 := hide (HF3.out.tr Hf4.out)
      by_cases hroom : (n : Int) ≤ most
      · rw [decide_eq_false (show ¬ most < (n : Int) by omega)]
        have HR := hide (show docX most l p v = ⟨0, l'⟩ from by rw [HA.out, if_pos hroom])
        have Hblk4 := hide (Hblk3.out.fr Hf4.out (fun h => h))
        have hcx : CellsAt w4 gx 0 [.slice sa sl sc, .slice ua ul uc] := Blk.cells (Hb3.out.fr Hf4.out (fun h => h))
        clear hroom hg2 hgx0
        repeat (first | (refine wpMix_skip rfl ?_; simp only [Act.put, List.setIfInBounds_toArray, List.set_cons_succ, List.set_cons_zero]) | (refine wpMix_calm rfl rfl (fun K hK => ?_); go_big_quiet_op; refine hK _ ?_; clear hK K))
        refine wpMix_nil ?_
        go_wp2_with (first
          | (refine wpList_load_at rfl 50 (.tmp 7) rfl gx 0 rfl [.slice sa sl sc, .slice ua ul uc] hcx _ Try.underlying50 rfl (by kernel_rfl) ?_)
          | (refine wpList_store_sub rfl 50 _ _ rfl g 0 _ 76 [.slice sa sl sc, .slice ua ul uc] rfl rfl Hblk4.out (by simp) (by kernel_rfl) (fun u hu => by simp only [List.mem_cons, List.not_mem_nil, or_false] at hu; rcases hu with rfl | rfl <;> rfl) ?_
             intro w5 hb5 hf5 hs5
             have Hb5 := hide hb5; have Hf5 := hide hf5
             clear hb5 hf5 hs5 hcx))
        go_ret
        unfold DocTo
        rw [HR.out]
        have hp4 := Hp3.out.fr Hf4.out (fun _ _ h => h)
        have hv4 := Hv3.out.fr Hf4.out (fun _ _ h => h)
        have hFR : Fr G w w5 := (HF4.out.mono (fun _ _ h => h.elim)).trans Hf5.out (fun _ _ h => h) (fun b _ e => by unfold oneB at e; subst e; exact H.out.here)
        refine ⟨rfl, doc_blk H.out (sp := ⟨sa, sl, sc⟩) (sv := ⟨ua, ul, uc⟩) (by have := Hb5.out; simpa using this) (hp4.fr Hf5.out (fun b hb e => by unfold oneB at e; subst e; exact own_ne_blk Hblk4.out hp4 (by decide) hb)) (hv4.fr Hf5.out (fun b hb e => by unfold oneB at e; subst e; exact own_ne_blk Hblk4.out hv4 (by decide) hb)) hFR (fun b hb => ?_) (fun b hb => ?_) Hln.out, hFR⟩
        · have := F2.out.size
          rcases Hbp.out b hb with h | h
          · exact .inl (HFp.out b h)
          · exact .inr (by omega)
        · have := F2.out.size
          rcases Hbv.out b hb with h | h
          · exact .inr (HN2b.out b h)
          · exact .inr (by omega)
      · rw [decide_eq_true (show most < (n : Int) by omega)]
        have HR := hide (show docX most l p v = ⟨6, l⟩ from by rw [HA.out, if_neg hroom])
        clear hroom hg2 hgx0
        repeat (first | (refine wpMix_skip rfl ?_; simp only [Act.put, List.setIfInBounds_toArray, List.set_cons_succ, List.set_cons_zero]) | (refine wpMix_calm rfl rfl (fun K hK => ?_); go_big_quiet_op; refine hK _ ?_; clear hK K))
        refine wpMix_nil ?_
        go_wp2_with fail
        go_ret
        unfold DocTo
        rw [HR.out]
        exact ⟨rfl, H.out.same HF4.out⟩
    · have HR := hide (show docX most l p v = ⟨1, l⟩ from by rw [HA0.out, if_neg hi])
      have hX : setX l p v = ⟨1, l⟩ := by unfold setX; rw [if_neg hi]
      rw [hX]
      clear hi hX
      go_wp2_with fail
      go_ret
      unfold DocTo
      rw [HR.out]
      exact ⟨rfl, H.out.same HF3.out⟩
end Go.Proofs.Ytgjabgneapdbiaa
