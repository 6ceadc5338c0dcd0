/- trie.cut: the prefix itself. Written by a program (gen_trie_cut.py). -/
import Derived.Test.YtgjabgneapdbiaaTrieCut
namespace Go.Proofs.Ytgjabgneapdbiaa
open Go.RowKit Go.BigFrame
set_option linter.unusedSimpArgs false
set_option linter.unusedVariables false
attribute [local irreducible] wpMix wpAnyG

set_option maxRecDepth 100000 in
set_option maxHeartbeats 4000000 in
theorem cut_eq (w : World) (F : Nat → Prop) (g : Nat) (N : List NodeM) (fr : List Nat) (root many : Nat) (h : TrieAt w F g N fr root many) (i : Nat) (q : PrefixM) (qv : Int) (th : Bool) (l r : T) (hr : RepT N (.node i q qv th l r)) (hgood : Good (.node i q qv th l r))
    (ha : AlOk N fr (T.node i q qv th l r).ids) (hfl : fr.length + 1 ≤ 1000000) (p : PrefixM) (hp : okP p) (hc : covB q p = true) (hqp : q = p) :
    Calls Try.prog 59 #[.pointer (some ⟨g, 0, none⟩), .int .i64 (i : Nat), .agg p.cells.toArray] w (CutTo w F g N fr root many (cutT (.node i q qv th l r) p ⟨N.length, fr⟩) (T.node i q qv th l r).ids) := by
  have H := hide h; have Hr := hide hr; have Hgood := hide hgood; have Hp := hide hp; have Hc := hide hc; have Ha := hide ha
  have Hq : Hid (okP q) := hide hgood.1
  have hgl := h.lt g h.here
  have hi0 := hr.1
  have HNi := hide hr.2.1
  have Heq := hide hqp
  clear hqp
  clear h hr hp hc ha hgood
  go_enter Try.func59, Try.ntmps59
  go_upto_region 1 with (fail)
  refine wp_gen (fun W => CellsAt W w.heap.size 0 p.cells ∧ Fr noB w W ∧ w.heap.size < W.heap.size) ⟨by (repeat (first | assumption | exact cells_new _ _ _ (by simp) | refine CellsAt.alloc ?_ _ | refine CellsAt.drew ?_ | refine CellsAt.drewN ?_ _)), (Fr.refl _ _).alloc _, by simp⟩ ?_
  rintro w1 ⟨hcp, hf, hw1⟩
  have Hcp := hide hcp; have Hf := hide hf
  have H1 := hide (H.out.frN hf)
  obtain ⟨gn, nl, nc, hn⟩ := H1.out.node HNi.out
  have hin := hn.lt
  have hnlm := hn.nlm
  have hcq : CellsAt w1 gn (i * 6) q.cells := node_pfx hn.cells
  have hmul : ((i : Int) * 6).toNat = i * 6 := by omega
  have hz : ((i : Int) == 0) = false := by simp only [beq_eq_false_iff_ne, ne_eq]; omega
  have hg1 : ∀ z : Grow w1, z.v.cell? ⟨g, 0, none⟩ = some (.slice (some ⟨gn, 0, none⟩) nl nc) := fun z => Grow.cell hn.head z
  have Hn := hide hn
  clear hn hf
  refine wp_region_mix (fun W => ∃ z : Grow w1, W = z.v) (by kernel_rfl) (by kernel_rfl) (inGrow (Fr.refl _ _).drew) ?_
  iterate 10 (first | (refine wpMix_skip rfl ?_; simp only [Act.put, List.setIfInBounds_toArray, List.set_cons_succ, List.set_cons_zero]) | (refine wpMix_calm rfl rfl (fun K hK => ?_); go_big_quiet_op; refine hK _ ?_; clear hK K))
  refine wpMix_load_atw rfl 28 (.tmp 21) rfl gn (i * 6) rfl q.cells (fun W hW => by obtain ⟨z, rfl⟩ := hW; exact hcq.fr z.fr (fun h => h)) _ Try.underlying28 rfl (by kernel_rfl) ?_
  simp only [Act.put, List.setIfInBounds_toArray, List.set_cons_succ, List.set_cons_zero]
  refine wpMix_load_atw rfl 28 (.tmp 5) rfl w.heap.size 0 rfl p.cells (fun W hW => by obtain ⟨z, rfl⟩ := hW; exact Hcp.out.fr z.fr (fun h => h)) _ Try.underlying28 rfl (by kernel_rfl) ?_
  simp only [Act.put, List.setIfInBounds_toArray, List.set_cons_succ, List.set_cons_zero]
  refine wpMix_spine rfl rfl (fun K hK => ?_); go_wp2_with fail
  refine (addr_Covers q p Hq.out.2 Hp.out.2 _).mono ?_
  rintro e w2 ⟨rfl, hf2⟩
  rw [Hc.out]
  have Hf2 := hide ((Fr.refl noB w1).drew.tr hf2)
  refine hK _ _ rfl (inGrow Hf2.out) ?_
  clear hK K hf2 hg1 hcp hcq
  repeat (first | (refine wpMix_skip rfl ?_; simp only [Act.put, List.setIfInBounds_toArray, List.set_cons_succ, List.set_cons_zero]) | (refine wpMix_calm rfl rfl (fun K hK => ?_); go_big_quiet_op; refine hK _ ?_; clear hK K))
  refine wpMix_nil ?_
  obtain ⟨gn, nl, nc, hn⟩ := (H1.out.frN Hf2.out).node HNi.out
  have hcn := hn.cells
  have c0 := hn.head
  have hin := hn.lt
  have hnlm := hn.nlm
  clear hn Hn
  go_upto_region 4 with (first | (refine wpList_load_at rfl 87 _ rfl _ _ rfl (NodeM.cells _) (by (repeat (first | assumption | exact cells_new _ _ _ (by simp) | refine CellsAt.alloc ?_ _ | refine CellsAt.drew ?_ | refine CellsAt.drewN ?_ _))) _ Try.underlying87 rfl (by kernel_rfl) ?_) | (refine wpList_store_new rfl 87 _ _ rfl _ _ (NodeM.mk q qv th l.id r.id).cells _ rfl rfl (by simp) (by kernel_rfl) rfl (by kernel_rfl) ?_))
  refine wp_gen (fun W => CellsAt W w2.heap.size 0 (NodeM.mk q qv th l.id r.id).cells ∧ Fr noB w2 W ∧ w2.heap.size < W.heap.size) ⟨cells_new _ _ _ rfl, (Fr.refl _ _).alloc _, by simp⟩ ?_
  rintro w3 ⟨hcn3, hf3, hw3⟩
  have hw2 : w.heap.size < w2.heap.size := by have := Hf2.out.size; omega
  have hcp3 : CellsAt w3 w.heap.size 0 p.cells := Hcp.out.fr (Hf2.out.tr hf3) (fun h => h)
  have hcq3 : CellsAt w3 w2.heap.size 0 q.cells := node_pfx hcn3
  have Hcn3 := hide hcn3; have Hcp3 := hide hcp3
  have Hf3 := hide (Hf.out.tr (Hf2.out.tr hf3))
  have H3 := hide (H.out.frN Hf3.out)
  clear hcn c0 hin hnlm hf3 hcn3
  go_upto_region 5 with (first | (refine wpList_load_at rfl 28 (.tmp 35) rfl w2.heap.size 0 rfl q.cells hcq3 _ Try.underlying28 rfl (by kernel_rfl) ?_) | (refine wpList_load_at rfl 28 (.tmp 5) rfl w.heap.size 0 rfl p.cells hcp3 _ Try.underlying28 rfl (by kernel_rfl) ?_) | (refine wpList_eqs rfl false 28 (.tmp 36) (.tmp 37) rfl q.cells.toArray p.cells.toArray rfl rfl true (by kernel_rfl) (by rw [prefix_equal, decide_eq_true Heq.out]) ?_; rw [show (false ^^ true) = true from rfl]))
  clear hcq3 hcp3
  obtain ⟨gn, nl, nc, hn⟩ := H3.out.node HNi.out
  have c0 := hn.head
  have hin := hn.lt
  have hnlm := hn.nlm
  have cth : w3.cell? ⟨gn, i * 6 + 3, none⟩ = some (.bool th) := hn.cells 3 _ rfl
  have zth := hn.free (i * 6 + 3)
  have hgn := hn.block
  have Hn := hide hn
  clear hn
  go_upto_region 6 with (fail)
  refine wp_gen (fun W => TrieAt W F g (N.set i ⟨q, qv, false, l.id, r.id⟩) fr root many ∧ Fr (oneB gn) w3 W) ⟨Hn.out.set 3 (.bool false) ⟨q, qv, false, l.id, r.id⟩ (by decide) rfl, (Fr.refl (oneB gn) _).setCell (p := ⟨gn, i * 6 + 3, none⟩) (.inr rfl) _⟩ ?_
  rintro w4 ⟨ht4, hf4⟩
  have hgnl : gn < w.heap.size := H.out.lt gn Hn.out.foot
  have Ht4 := hide ht4
  have Hf4 := hide (show Fr F w w4 from Fr.trans Hf3.out hf4 (U := F) (fun _ _ h => h.elim) (fun b _ e => by unfold oneB at e; subst e; exact Hn.out.foot))
  have Hcn4 := hide (Hcn3.out.fr hf4 (fun e => by unfold oneB at e; omega))
  have hth : ∀ z : GrowS F w4, z.v.cell? ⟨w2.heap.size, 3, none⟩ = some (.bool th) := fun z => by have h := (Hcn4.out.fr z.fr (fun hb => by have := H.out.lt _ hb; omega)) 3 _ rfl; rwa [Nat.zero_add] at h
  have Hlen := hide Hn.out.len
  clear ht4 hf4 c0 hin hnlm cth zth hgn Hn
  refine wp_region_mix (fun W => ∃ z : GrowS F w4, W = z.v) (by kernel_rfl) (by kernel_rfl) (inGrowS (Fr.refl _ _).drew) ?_
  iterate 2 (first | (refine wpMix_skip rfl ?_; simp only [Act.put, List.setIfInBounds_toArray, List.set_cons_succ, List.set_cons_zero]) | (refine wpMix_calm rfl rfl (fun K hK => ?_); go_big_quiet_op; refine hK _ ?_; clear hK K))
  refine wpMix_spine rfl rfl (fun K hK => ?_); go_wp2_with fail
  have hil := Hr.out.lt
  have hnd := Ha.out.nodup
  simp only [T.ids, List.cons_append, List.nodup_cons, List.mem_append, not_or] at hnd
  have hrep : RepT (N.set i ⟨q, qv, false, l.id, r.id⟩) (.node i q qv false l r) := by
    obtain ⟨h0, h1, h2, h3⟩ := Hr.out
    refine ⟨h0, List.getElem?_set_self (hil i (by simp [T.ids])).2, h2.keep (fun j hj => List.getElem?_set_ne (fun e => ?_)), h3.keep (fun j hj => List.getElem?_set_ne (fun e => ?_))⟩
    · subst e; exact hnd.1.1.1 hj
    · subst e; exact hnd.1.1.2 hj
  have Hrep := hide hrep
  refine (trie_shrinks w4.drew F g _ fr root many (Ht4.out.frN (Fr.refl noB _).drew) hfl i q qv false l r hrep th N.length).mono ?_
  rintro e w5 ⟨rfl, ht5, hf5'⟩
  have hf5 : Fr F w4 w5 := (Fr.refl F w4).drew.tr hf5'
  have Ht5 := hide ht5; have Hf5 := hide hf5
  refine hK _ _ rfl (inGrowS hf5) ?_
  clear hK K ht5 hf5 hf5' hrep hil hnd
  generalize hX : shrT i q qv false l r ⟨N.length, fr⟩ th = X at *
  have HX := hide hX
  clear hX
  repeat (first | (refine wpMix_skip rfl ?_; simp only [Act.put, List.setIfInBounds_toArray, List.set_cons_succ, List.set_cons_zero]) | (refine wpMix_calm rfl rfl (fun K hK => ?_); go_big_quiet_op; refine hK _ ?_; clear hK K))
  refine wpMix_nil ?_
  clear hth
  go_wp2_with fail
  have hcut : cutT (.node i q qv th l r) p ⟨N.length, fr⟩ = X := by rw [cutT, if_neg (by rw [Hc.out]; simp), if_pos Heq.out, HX.out]
  rw [hcut]
  have hF : Fr F w w5 := Hf4.out.tr Hf5.out
  have hwas : X.was = th := by rw [← HX.out, shr_was]
  refine bodyPost_ret (results_2t Try.results59 _ _ (.int .i64 (X.t.id : Nat)) (.bool th) rfl rfl) rfl ⟨N.set i ⟨q, qv, false, l.id, r.id⟩, by rw [hwas], Ht5.out.later' (fun b hb => ?_) H.out.lt hF.size, List.length_set, ?_, fun j _ hj => List.getElem?_set_ne (fun e => hj (by simp [T.ids, e])), hF⟩
  · have h1 : w4.drew.heap.size = w4.heap.size := rfl
    have := Hf4.out.size
    rcases hb with hb | hb
    · exact .inl hb
    · exact .inr (by omega)
  · rw [← HX.out]
    unfold shrT
    split
    · exact Hrep.out
    · simp only; split
      · exact Hrep.out.2.2.2
      · exact Hrep.out.2.2.1
end Go.Proofs.Ytgjabgneapdbiaa
