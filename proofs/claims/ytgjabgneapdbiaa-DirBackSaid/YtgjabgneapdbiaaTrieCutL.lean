/- trie.cut: down. Written by a program (gen_trie_cut.py). -/
import Derived.Test.YtgjabgneapdbiaaTrieCut
namespace Go.Proofs.Ytgjabgneapdbiaa
open Go.RowKit Go.BigFrame
set_option linter.unusedSimpArgs false
set_option linter.unusedVariables false
attribute [local irreducible] wpMix wpAnyG

set_option maxRecDepth 100000 in
set_option maxHeartbeats 4000000 in
theorem cut_down0 (w : World) (F : Nat → Prop) (g : Nat) (N : List NodeM) (fr : List Nat) (root many : Nat) (h : TrieAt w F g N fr root many) (i : Nat) (q : PrefixM) (qv : Int) (th : Bool) (l r : T) (hr : RepT N (.node i q qv th l r)) (hgood : Good (.node i q qv th l r))
    (ha : AlOk N fr (T.node i q qv th l r).ids) (hfl : fr.length + 1 ≤ 1000000) (p : PrefixM) (hp : okP p) (hc : covB q p = true) (hqp : q ≠ p) (hlt : q.len < 32) (hk : halfB p.addr (heldN q.len) = 0) (hfl' : fr.length + l.ids.length + 1 ≤ 1000000) (ih : ∀ (w : World) (F : Nat → Prop) (N : List NodeM) (fr : List Nat) (root many : Nat), TrieAt w F g N fr root many → RepT N l → Good l → AlOk N fr l.ids → fr.length + l.ids.length + 1 ≤ 1000000 → Calls Try.prog 59 #[.pointer (some ⟨g, 0, none⟩), .int .i64 (l.id : Nat), .agg p.cells.toArray] w (CutTo w F g N fr root many (cutT l p ⟨N.length, fr⟩) l.ids)) :
    Calls Try.prog 59 #[.pointer (some ⟨g, 0, none⟩), .int .i64 (i : Nat), .agg p.cells.toArray] w (CutTo w F g N fr root many (cutT (.node i q qv th l r) p ⟨N.length, fr⟩) (T.node i q qv th l r).ids) := by
  have H := hide h; have Hr := hide hr; have Hgood := hide hgood; have Hp := hide hp; have Hc := hide hc; have Ha := hide ha
  have Hq : Hid (okP q) := hide hgood.1
  have hgl := h.lt g h.here
  have hi0 := hr.1
  have HNi := hide hr.2.1
  have Ih := hide ih; have Hqp := hide hqp; have Hk := hide hk; have hfl2 := hfl'
  clear ih hqp
  clear h hr hp hc ha hgood
  go_enter Try.func59, Try.ntmps59
  go_upto_region 1 with (fail)
  refine wp_gen (fun W => CellsAt W w.heap.size 0 p.cells ∧ Fr noB w W ∧ w.heap.size < W.heap.size) ⟨by (repeat (first | assumption | exact cells_new _ _ _ (by simp) | refine CellsAt.alloc ?_ _ | refine CellsAt.drew ?_ | refine CellsAt.drewN ?_ _)), (Fr.refl _ _).alloc _, by simp⟩ ?_
  rintro w1 ⟨hcp, hf, hw1⟩
  have Hcp := hide hcp; have Hf := hide hf
  have H1 := hide (H.out.frN hf)
  obtain ⟨gn, nl, nc, hn⟩ := H1.out.node HNi.out
  have hin := hn.lt
  have hnlm := hn.nlm
  have hcq : CellsAt w1 gn (i * 6) q.cells := node_pfx hn.cells
  have hmul : ((i : Int) * 6).toNat = i * 6 := by omega
  have hz : ((i : Int) == 0) = false := by simp only [beq_eq_false_iff_ne, ne_eq]; omega
  have hg1 : ∀ z : Grow w1, z.v.cell? ⟨g, 0, none⟩ = some (.slice (some ⟨gn, 0, none⟩) nl nc) := fun z => Grow.cell hn.head z
  have Hn := hide hn
  clear hn hf
  refine wp_region_mix (fun W => ∃ z : Grow w1, W = z.v) (by kernel_rfl) (by kernel_rfl) (inGrow (Fr.refl _ _).drew) ?_
  iterate 10 (first | (refine wpMix_skip rfl ?_; simp only [Act.put, List.setIfInBounds_toArray, List.set_cons_succ, List.set_cons_zero]) | (refine wpMix_calm rfl rfl (fun K hK => ?_); go_big_quiet_op; refine hK _ ?_; clear hK K))
  refine wpMix_load_atw rfl 28 (.tmp 21) rfl gn (i * 6) rfl q.cells (fun W hW => by obtain ⟨z, rfl⟩ := hW; exact hcq.fr z.fr (fun h => h)) _ Try.underlying28 rfl (by kernel_rfl) ?_
  simp only [Act.put, List.setIfInBounds_toArray, List.set_cons_succ, List.set_cons_zero]
  refine wpMix_load_atw rfl 28 (.tmp 5) rfl w.heap.size 0 rfl p.cells (fun W hW => by obtain ⟨z, rfl⟩ := hW; exact Hcp.out.fr z.fr (fun h => h)) _ Try.underlying28 rfl (by kernel_rfl) ?_
  simp only [Act.put, List.setIfInBounds_toArray, List.set_cons_succ, List.set_cons_zero]
  refine wpMix_spine rfl rfl (fun K hK => ?_); go_wp2_with fail
  refine (addr_Covers q p Hq.out.2 Hp.out.2 _).mono ?_
  rintro e w2 ⟨rfl, hf2⟩
  rw [Hc.out]
  have Hf2 := hide ((Fr.refl noB w1).drew.tr hf2)
  refine hK _ _ rfl (inGrow Hf2.out) ?_
  clear hK K hf2 hg1 hcp hcq
  repeat (first | (refine wpMix_skip rfl ?_; simp only [Act.put, List.setIfInBounds_toArray, List.set_cons_succ, List.set_cons_zero]) | (refine wpMix_calm rfl rfl (fun K hK => ?_); go_big_quiet_op; refine hK _ ?_; clear hK K))
  refine wpMix_nil ?_
  obtain ⟨gn, nl, nc, hn⟩ := (H1.out.frN Hf2.out).node HNi.out
  have hcn := hn.cells
  have c0 := hn.head
  have hin := hn.lt
  have hnlm := hn.nlm
  clear hn Hn
  go_upto_region 4 with (first | (refine wpList_load_at rfl 87 _ rfl _ _ rfl (NodeM.cells _) (by (repeat (first | assumption | exact cells_new _ _ _ (by simp) | refine CellsAt.alloc ?_ _ | refine CellsAt.drew ?_ | refine CellsAt.drewN ?_ _))) _ Try.underlying87 rfl (by kernel_rfl) ?_) | (refine wpList_store_new rfl 87 _ _ rfl _ _ (NodeM.mk q qv th l.id r.id).cells _ rfl rfl (by simp) (by kernel_rfl) rfl (by kernel_rfl) ?_))
  refine wp_gen (fun W => CellsAt W w2.heap.size 0 (NodeM.mk q qv th l.id r.id).cells ∧ Fr noB w2 W ∧ w2.heap.size < W.heap.size) ⟨cells_new _ _ _ rfl, (Fr.refl _ _).alloc _, by simp⟩ ?_
  rintro w3 ⟨hcn3, hf3, hw3⟩
  have hw2 : w.heap.size < w2.heap.size := by have := Hf2.out.size; omega
  have hcp3 : CellsAt w3 w.heap.size 0 p.cells := Hcp.out.fr (Hf2.out.tr hf3) (fun h => h)
  have hcq3 : CellsAt w3 w2.heap.size 0 q.cells := node_pfx hcn3
  have Hcn3 := hide hcn3; have Hcp3 := hide hcp3
  have Hf3 := hide (Hf.out.tr (Hf2.out.tr hf3))
  have H3 := hide (H.out.frN Hf3.out)
  clear hcn c0 hin hnlm hf3 hcn3
  go_upto_region 7 with (first | (refine wpList_load_at rfl 28 (.tmp 35) rfl w2.heap.size 0 rfl q.cells hcq3 _ Try.underlying28 rfl (by kernel_rfl) ?_) | (refine wpList_load_at rfl 28 (.tmp 5) rfl w.heap.size 0 rfl p.cells hcp3 _ Try.underlying28 rfl (by kernel_rfl) ?_) | (refine wpList_eqs rfl false 28 (.tmp 36) (.tmp 37) rfl q.cells.toArray p.cells.toArray rfl rfl false (by kernel_rfl) (by rw [prefix_equal, decide_eq_false Hqp.out]) ?_; rw [show (false ^^ false) = false from rfl]))
  have p0 := (pfx_now hcp3).1
  have q1 := (pfx_now hcq3).2
  rw [Nat.zero_add, ← Hq.out.cast] at q1
  have hq32 := (lt32 Hq.out).2 hlt
  clear hcq3 hcp3
  go_wp2_with fail
  refine (trie_half p.addr (heldN q.len) Hp.out.lt hq32 _).mono ?_
  rintro e w4 ⟨rfl, rfl⟩
  rw [Hk.out]
  have hkid : ∀ z : GrowS F w4, z.v.cell? ⟨w2.heap.size, 4, none⟩ = some (.int .i64 (l.id : Nat)) := fun z => by have h := (Hcn3.out.fr z.fr (fun hb => by have := H.out.lt _ hb; omega)) 4 _ rfl; rwa [Nat.zero_add] at h
  clear p0 q1 hq32
  go_upto_region 8 with (fail)
  refine wp_region_mix (fun W => ∃ z : GrowS F w4, W = z.v) (by kernel_rfl) (by kernel_rfl) (inGrowS (Fr.refl _ _).drew) ?_
  iterate 5 (first | (refine wpMix_skip rfl ?_; simp only [Act.put, List.setIfInBounds_toArray, List.set_cons_succ, List.set_cons_zero]) | (refine wpMix_calm rfl rfl (fun K hK => ?_); go_big_quiet_op; refine hK _ ?_; clear hK K))
  refine wpMix_load_atw rfl 28 (.tmp 5) rfl w.heap.size 0 rfl p.cells (fun W hW => by obtain ⟨z, rfl⟩ := hW; exact Hcp3.out.fr z.fr (fun hb => by have := H.out.lt _ hb; omega)) _ Try.underlying28 rfl (by kernel_rfl) ?_
  simp only [Act.put, List.setIfInBounds_toArray, List.set_cons_succ, List.set_cons_zero]
  refine wpMix_spine rfl rfl (fun K hK => ?_); go_wp2_with fail
  have hids : AlOk N fr l.ids := ⟨(Ha.out.nodup).sublist (by simp only [T.ids]; exact List.Sublist.append_right (.trans (List.sublist_append_left _ _) (List.sublist_cons_self _ _)) _), Ha.out.bd⟩
  refine (Ih.out w4.drew F N fr root many (H3.out.frN (Fr.refl noB w4).drew) Hr.out.2.2.1 Hgood.out.2.2.2.2.1 hids hfl').mono ?_
  rintro e w5 ⟨N', rfl, ht5, hlen, hrep, hoth, hf5'⟩
  have hf5 : Fr F w4 w5 := (Fr.refl F w4).drew.tr hf5'
  have Ht5 := hide ht5; have Hlen := hide hlen; have Hrep := hide hrep; have Hoth := hide hoth; have Hf5 := hide hf5
  refine hK _ _ rfl (inGrowS hf5) ?_
  clear hK K ht5 hlen hrep hoth hf5 hf5' hkid hids
  have HX := hide (show cutT (.node i q qv th l r) p ⟨N.length, fr⟩ = shrT i q qv th (cutT l p ⟨N.length, fr⟩).t r (cutT l p ⟨N.length, fr⟩).s (cutT l p ⟨N.length, fr⟩).was from by rw [cutT, if_neg (by rw [Hc.out]; simp), if_neg Hqp.out, if_pos hk])
  have Hperm := hide (cut_perm p l ⟨N.length, fr⟩)
  generalize cutT l p ⟨N.length, fr⟩ = Y at *
  obtain ⟨x', ⟨yn, yfr⟩, was⟩ := Y
  repeat (first | (refine wpMix_skip rfl ?_; simp only [Act.put, List.setIfInBounds_toArray, List.set_cons_succ, List.set_cons_zero]) | (refine wpMix_calm rfl rfl (fun K hK => ?_); go_big_quiet_op; refine hK _ ?_; clear hK K))
  refine wpMix_nil ?_
  have hnd := Ha.out.nodup
  simp only [T.ids, List.cons_append, List.nodup_cons, List.mem_append, not_or] at hnd
  have hil := (Hr.out.lt i (by simp [T.ids])).2
  have hNi5 : N'[i]? = some ⟨q, qv, th, l.id, r.id⟩ := (Hoth.out i hil hnd.1.1.1).trans HNi.out
  have Hnd := hide hnd
  clear hnd
  obtain ⟨gn, nl, nc, hn⟩ := Ht5.out.node hNi5
  have c0 := hn.head
  have hin := hn.lt
  have hnlm := hn.nlm
  have hgn := hn.block
  have ck : w5.cell? ⟨gn, i * 6 + 4, none⟩ = some (.int .i64 (l.id : Nat)) := hn.cells 4 _ rfl
  have zk := hn.free (i * 6 + 4)
  have Hn := hide hn; have HNi5 := hide hNi5
  clear hn hNi5
  go_upto_region 10 with (fail)
  refine wp_gen (fun W => TrieAt W (gr F w4.drew w5) g (N'.set i ⟨q, qv, th, x'.id, r.id⟩) yfr root many ∧ Fr (oneB gn) w5 W) ⟨Hn.out.set 4 (.int .i64 (x'.id : Nat)) ⟨q, qv, th, x'.id, r.id⟩ (by decide) rfl, (Fr.refl (oneB gn) _).setCell (p := ⟨gn, i * 6 + 4, none⟩) (.inr rfl) _⟩ ?_
  rintro w6 ⟨ht6, hf6⟩
  have Ht6 := hide ht6; have Hf6 := hide hf6
  clear ht6 hf6 c0 hin hnlm hgn ck zk
  have hpl := Hperm.out.2
  have hni : i ∉ x'.ids := fun hi => by
    have h1 : i ∈ l.ids ++ fr := hpl.subset (List.mem_append_left _ hi)
    rcases List.mem_append.1 h1 with h2 | h2
    · exact Hnd.out.1.1.1 h2
    · exact Hnd.out.1.2 h2
  have hoth2 : ∀ j ∈ r.ids, (N'.set i ⟨q, qv, th, x'.id, r.id⟩)[j]? = N[j]? := fun j hj => by
    have hjl : j < N.length := (Hr.out.2.2.2.lt j hj).2
    have hnj : ¬ i = j := fun e => Hnd.out.1.1.2 (e ▸ hj)
    rw [List.getElem?_set_ne hnj]
    have hn2 := Hnd.out.2
    simp only [List.append_assoc] at hn2
    exact Hoth.out j hjl (fun h => (List.nodup_append.1 hn2).2.2 j h j (List.mem_append_left _ hj) rfl)
  have hrep2 : RepT (N'.set i ⟨q, qv, th, x'.id, r.id⟩) (.node i q qv th x' r) := by
    refine ⟨Hr.out.1, List.getElem?_set_self (by rw [Hlen.out]; exact hil), Hrep.out.keep (fun j hj => List.getElem?_set_ne (fun e => hni (by rw [e]; exact hj))), Hr.out.2.2.2.keep hoth2⟩
  have Hrep2 := hide hrep2
  have hyl : yfr.length + 1 ≤ 1000000 := by
    have h1 := hpl.length_eq
    simp only [List.length_append] at h1
    have h2 := Hn.out.len
    have := hfl2
    omega
  clear hil hpl hni hoth2 hrep2
  go_wp2_with fail
  refine (trie_shrinks w6 _ g _ yfr root many Ht6.out hyl i q qv th x' r Hrep2.out was yn).mono ?_
  rintro e w7 ⟨rfl, ht7, hf7⟩
  have Ht7 := hide ht7; have Hf7 := hide hf7
  clear ht7 hf7

  generalize hX : shrT i q qv th x' r ⟨yn, yfr⟩ was = X at *
  have HX2 := hide hX
  clear hX
  go_wp2_with fail
  rw [HX.out]
  have h1 : w4.drew.heap.size = w4.heap.size := rfl
  have hs3 := Hf3.out.size; have hs5 := Hf5.out.size; have hs6 := Hf6.out.size; have hs7 := Hf7.out.size
  have hF : Fr F w w7 := by
    refine Fr.trans (Fr.trans (Fr.trans Hf3.out Hf5.out (U := F) (fun _ _ h => h.elim) (fun _ _ h => h)) Hf6.out (U := F) (fun _ _ h => h) (fun b hb e => ?_)) Hf7.out (fun _ _ h => h) (fun b hb e => ?_)
    · unfold oneB at e; subst e
      rcases Hn.out.foot with h | h
      · exact h
      · omega
    · rcases e with e | e
      · exact e
      · omega
  have hwas : X.was = was := by rw [← HX2.out, shr_was]
  refine bodyPost_ret (results_2t Try.results59 _ _ (.int .i64 (X.t.id : Nat)) (.bool was) rfl rfl) rfl ⟨N'.set i ⟨q, qv, th, x'.id, r.id⟩, by rw [hwas], Ht7.out.later' (fun b hb => ?_) H.out.lt hF.size, by rw [List.length_set]; exact Hlen.out, ?_, fun j hj hji => ?_, hF⟩
  · rcases hb with (hb | hb) | hb
    · exact .inl hb
    · exact .inr (by omega)
    · exact .inr (by omega)
  · rw [← HX2.out]
    unfold shrT
    split
    · exact Hrep2.out
    · simp only; split
      · exact Hrep2.out.2.2.2
      · exact Hrep2.out.2.2.1
  · have hnj : ¬ i = j := fun e => hji (by simp [T.ids, e])
    rw [List.getElem?_set_ne hnj]
    exact Hoth.out j hj (fun h => hji (by simp [T.ids, h]))
end Go.Proofs.Ytgjabgneapdbiaa
