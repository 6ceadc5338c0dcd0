/- trie.put: down into the first half. Written by a program (gen_trie_put.py). -/
import Derived.Test.YtgjabgneapdbiaaTriePut
namespace Go.Proofs.Ytgjabgneapdbiaa
open Go.RowKit Go.BigFrame
set_option linter.unusedSimpArgs false
set_option linter.unusedVariables false
attribute [local irreducible] wpMix wpAnyG

set_option maxRecDepth 100000 in
set_option maxHeartbeats 4000000 in
theorem put_down0 (w : World) (F : Nat → Prop) (g : Nat) (N : List NodeM) (fr : List Nat) (root many : Nat) (h : TrieAt w F g N fr root many) (i : Nat) (q : PrefixM) (qv : Int) (th : Bool) (l r : T) (hr : RepT N (.node i q qv th l r)) (hgood : Good (.node i q qv th l r))
    (ha : AlOk N fr (T.node i q qv th l r).ids) (hN : N.length + 2 ≤ 1000000) (hm : many + 2 ≤ 1000000) (p : PrefixM) (hp : okP p) (v : Int) (hc : comN p q = heldN q.len) (hd : comN p q ≠ heldN p.len) (hk : halfB p.addr (heldN q.len) = 0) (ih : ∀ (w : World) (F : Nat → Prop) (N : List NodeM) (fr : List Nat) (root many : Nat), TrieAt w F g N fr root many → RepT N l → Good l → AlOk N fr l.ids → 0 < N.length → N.length + 2 ≤ 1000000 → many + 2 ≤ 1000000 → Calls Try.prog 53 #[.pointer (some ⟨g, 0, none⟩), .int .i64 ((l.id : Nat) : Int), .agg p.cells.toArray, .int .i64 v] w (PutTo w F g N fr root many (putT l p v ⟨N.length, fr⟩) l.ids)) :
    Calls Try.prog 53 #[.pointer (some ⟨g, 0, none⟩), .int .i64 ((i : Nat) : Int), .agg p.cells.toArray, .int .i64 v] w (PutTo w F g N fr root many (putT (.node i q qv th l r) p v ⟨N.length, fr⟩) (T.node i q qv th l r).ids) := by
  have Ih := hide ih
  clear ih
  have H := hide h; have Hr := hide hr; have Ha := hide ha; have Hgood := hide hgood
  have hgl := h.lt g h.here
  have hq : okP q := hgood.1
  have hi0 := hr.1
  have hNi := hr.2.1
  have Hp := hide hp; have Hq := hide hq; have HNi := hide hNi
  clear h hr ha hgood
  go_enter Try.func53, Try.ntmps53
  go_upto_region 2 with (first | (refine wpList_load_at rfl 28 _ rfl _ _ rfl (PrefixM.cells _) (by (repeat (first | assumption | exact cells_new _ _ _ (by simp) | refine CellsAt.alloc ?_ _ | refine CellsAt.drew ?_ | refine CellsAt.drewN ?_ _))) _ Try.underlying28 rfl (by kernel_rfl) ?_) | (refine wpList_build_as rfl 87 _ rfl (NodeM.mk p v true 0 0).cells.toArray (by kernel_rfl) ?_) | (refine wpList_store_new rfl 87 _ _ rfl _ _ (NodeM.cells ⟨p, v, true, 0, 0⟩) _ rfl rfl (by simp) (by kernel_rfl) rfl (by kernel_rfl) ?_))
  refine wp_gen (fun W => CellsAt W w.heap.size 0 p.cells ∧ Blk W (w.heap.size + 1) (NodeM.mk p v true 0 0).cells.toArray 87 ∧ Fr noB w W ∧ W.heap.size = w.heap.size + 1 + 1) ⟨by (repeat (first | assumption | exact cells_new _ _ _ (by simp) | refine CellsAt.alloc ?_ _ | refine CellsAt.drew ?_ | refine CellsAt.drewN ?_ _)), by have := Blk.alloc_new (w.alloc (.cells p.cells.toArray 28)) (NodeM.mk p v true 0 0).cells.toArray 87; rw [World.size_alloc] at this; exact this, ((Fr.refl _ _).alloc _).alloc _, by simp⟩ ?_
  rintro w1 ⟨hcp, hbl, hf, hw1'⟩
  have hw1 : w.heap.size + 1 < w1.heap.size := by omega
  clear hw1'
  obtain ⟨gn, nl, nc, hn⟩ := (H.out.frN hf).node hNi
  have hcq : CellsAt w1 gn (i * 6) q.cells := node_pfx hn.cells
  have c0 := hn.head
  have hin := hn.lt
  have hnlm := hn.nlm
  have hmul : ((i : Int) * 6).toNat = i * 6 := by omega
  have Hcp := hide hcp; have Hbl := hide hbl; have Hf := hide hf
  clear hcp hbl hf hn hNi hp hq
  go_upto_region 6 with (first | (refine wpList_load_at rfl 28 _ rfl _ _ rfl (PrefixM.cells _) (by (repeat (first | assumption | exact cells_new _ _ _ (by simp) | refine CellsAt.alloc ?_ _ | refine CellsAt.drew ?_ | refine CellsAt.drewN ?_ _))) _ Try.underlying28 rfl (by kernel_rfl) ?_) | (refine wpList_store_new rfl 28 _ _ rfl _ _ q.cells _ rfl rfl (by simp) (by kernel_rfl) rfl (by kernel_rfl) ?_))
  refine wp_gen (fun W => CellsAt W w1.heap.size 0 q.cells ∧ Fr noB w1 W ∧ w1.heap.size < W.heap.size) ⟨cells_new _ _ _ rfl, (Fr.refl _ _).alloc _, by simp⟩ ?_
  rintro w2 ⟨hcq2, hf2, hw2⟩
  have hcp2 : CellsAt w2 w.heap.size 0 p.cells := Hcp.out.fr hf2 (fun h => h)
  have Hcq2 := hide hcq2; have Hf2 := hide (Hf.out.tr hf2); have Hcp2 := hide hcp2; have Hbl2 := hide (Hbl.out.fr hf2 (fun h => h))
  clear hcq c0 hin hnlm hf2
  go_wp2_with (refine wpList_load_at rfl 28 _ rfl _ _ rfl (PrefixM.cells _) (by (repeat (first | assumption | exact cells_new _ _ _ (by simp) | refine CellsAt.alloc ?_ _ | refine CellsAt.drew ?_ | refine CellsAt.drewN ?_ _))) _ Try.underlying28 rfl (by kernel_rfl) ?_)
  refine (trie_common p q Hp.out Hq.out _).mono ?_
  rintro e w3 ⟨rfl, hf3⟩
  have hw3 : w.heap.size + 1 + 1 < w3.heap.size := by have := hf3.size; omega
  obtain ⟨p0, p1⟩ := pfx_now (Hcp2.out.fr hf3 (fun h => h))
  obtain ⟨q0, q1⟩ := pfx_now (Hcq2.out.fr hf3 (fun h => h))
  simp only [Nat.zero_add] at p1 q1
  have Hf3 := hide (Hf2.out.tr hf3); have Hcp3 := hide (Hcp2.out.fr hf3 (fun h => h)); have Hbl3 := hide (Hbl2.out.fr hf3 (fun h => h))
  have H3 := hide (H.out.frN Hf3.out)
  clear hcq2 hcp2 hf3 hw2
  obtain ⟨_, c3, z3', hg3⟩ := H3.out.root_cell
  have z3 := z3' 3
  clear z3'
  have hc1 := Hq.out.cast; have hc2 := Hp.out.cast
  have t1 : (((comN p q : Nat) : Int) == q.len) = true := by simp only [beq_iff_eq]; omega
  have t2 : (((comN p q : Nat) : Int) == p.len) = false := by simp only [beq_eq_false_iff_ne, ne_eq]; omega
  have HX := hide (show putT (.node i q qv th l r) p v ⟨N.length, fr⟩ = ⟨.node i q qv th (putT l p v ⟨N.length, fr⟩).t r, (putT l p v ⟨N.length, fr⟩).s, (putT l p v ⟨N.length, fr⟩).new⟩ from by rw [putT, if_pos hc, if_neg hd, if_pos hk])
  have hlt : comN p q < 32 := by have := heldN_le p.len; have := com_le (p := p) (q := q); omega
  have Hk := hide (show halfB p.addr (comN p q) = 0 from by rw [hc]; exact hk)
  have hpl := Hp.out.lt
  generalize comN p q = c at *
  clear hc hd hc1 hc2 hk
  go_upto_region 13 with (fail)
  clear t1 t2
  go_wp2_with fail
  refine (trie_half p.addr c hpl hlt _).mono ?_
  rintro e w4 ⟨rfl, rfl⟩
  rw [Hk.out]
  clear p0 p1 q0 q1 hlt hpl
  obtain ⟨gn, nl, nc, hn⟩ := H3.out.node HNi.out
  have hin := hn.lt
  have hnlm := hn.nlm
  have hmul : ((i : Int) * 6).toNat = i * 6 := by omega
  have cl : w4.cell? ⟨gn, i * 6 + 4 + 0, none⟩ = some (.int .i64 (l.id : Nat)) := hn.cells 4 _ rfl
  have hg4 : ∀ z : Grow w4, z.v.cell? ⟨g, 0, none⟩ = some (.slice (some ⟨gn, 0, none⟩) nl nc) := fun z => Grow.cell hn.head z
  have cl4 : ∀ z : Grow w4, z.v.cell? ⟨gn, i * 6 + 4 + 0, none⟩ = some (.int .i64 (l.id : Nat)) := fun z => Grow.cell cl z
  have Hn := hide hn
  clear hn c3 z3
  go_upto_region 14 with (fail)
  clear cl
  refine wp_region_mix2 13 (fun W => ∃ z : Grow w4, W = z.v) (by kernel_rfl) (by kernel_rfl) (inGrow (Fr.refl _ _).drew) ?_
  simp only [List.take_succ_cons, List.take_zero, List.drop_succ_cons, List.drop_zero]
  iterate 11 (first | (refine wpMix_skip rfl ?_; simp only [Act.put, List.setIfInBounds_toArray, List.set_cons_succ, List.set_cons_zero]) | (refine wpMix_calm rfl rfl (fun K hK => ?_); go_big_quiet_op; refine hK _ ?_; clear hK K))
  refine wpMix_load_atw rfl 28 (.tmp 6) rfl w.heap.size 0 rfl p.cells (fun W hW => by obtain ⟨z, rfl⟩ := hW; exact Hcp3.out.fr z.fr (fun h => h)) _ Try.underlying28 rfl (by kernel_rfl) ?_
  simp only [Act.put, List.setIfInBounds_toArray, List.set_cons_succ, List.set_cons_zero]
  repeat (first | (refine wpMix_skip rfl ?_; simp only [Act.put, List.setIfInBounds_toArray, List.set_cons_succ, List.set_cons_zero]) | (refine wpMix_calm rfl rfl (fun K hK => ?_); go_big_quiet_op; refine hK _ ?_; clear hK K))
  refine wpMix_nil ?_
  refine wpList_plain rfl (fun K hK => ?_)
  go_wp2_with fail
  have hids : AlOk N fr l.ids := ⟨(Ha.out.nodup).sublist (by simp only [T.ids]; exact List.Sublist.append_right (.trans (List.sublist_append_left _ _) (List.sublist_cons_self _ _)) _), Ha.out.bd⟩
  refine (Ih.out w4.drew F N fr root many (H3.out.frN (Fr.refl noB w4).drew) Hr.out.2.2.1 Hgood.out.2.2.2.2.1 hids (by have := Hn.out.len; omega) (by omega) (by omega)).mono ?_
  rintro e w5 ⟨N', rfl, ht5, hlen, hrep, hoth, hf5⟩
  have Ht5 := hide ht5; have Hlen := hide hlen; have Hrep := hide hrep; have Hoth := hide hoth; have Hf5 := hide (show Fr F w4 w5 from ((Fr.refl F w4).drew).tr hf5)
  refine hK _ _ ⟨rfl, (fun W => ∃ z : Grow w5, W = z.v), inGrow (Fr.refl _ _), ?_⟩
  clear hK K ht5 hlen hrep hoth hf5 hg4 cl4 hids
  repeat (first | (refine wpMix_skip rfl ?_; simp only [Act.put, List.setIfInBounds_toArray, List.set_cons_succ, List.set_cons_zero]) | (refine wpMix_calm rfl rfl (fun K hK => ?_); go_big_quiet_op; refine hK _ ?_; clear hK K))
  refine wpMix_nil ?_
  have hnd := Ha.out.nodup
  simp only [T.ids, List.cons_append, List.nodup_cons, List.mem_append, not_or] at hnd
  have hNi5 : N'[i]? = some ⟨q, qv, th, l.id, r.id⟩ := (Hoth.out i (by have := Hn.out.len; omega) hnd.1.1.1 hnd.1.2).trans HNi.out
  have Hnd := hide hnd
  clear hnd
  obtain ⟨gn', nl', nc', hn5⟩ := Ht5.out.node hNi5
  have c0 := hn5.head
  have hin5 := hn5.lt
  have hnlm5 := hn5.nlm
  have hgn5 := hn5.block
  have cl5 : w5.cell? ⟨gn', i * 6 + 4 + 0, none⟩ = some (.int .i64 (l.id : Nat)) := hn5.cells 4 _ rfl
  have z5 := hn5.free (i * 6 + 4 + 0)
  have HNi5 := hide hNi5; have Hn5 := hide hn5
  clear hNi5 hn5
  generalize hx' : (putT l p v ⟨N.length, fr⟩).t = x' at *
  go_wp2_with fail
  go_ret
  unfold PutTo
  rw [HX.out]
  have hset := Hn5.out.set 4 (.int .i64 (x'.id : Nat)) ⟨q, qv, th, x'.id, r.id⟩ (by decide) rfl
  have hs : Fr (oneB gn') w5 (w5.setCell ⟨gn', i * 6 + 4, none⟩ (.int .i64 (x'.id : Nat))) := (Fr.refl (oneB gn') _).setCell (p := ⟨gn', i * 6 + 4, none⟩) (.inr rfl) _
  have hF : Fr F w (w5.setCell ⟨gn', i * 6 + 4, none⟩ (.int .i64 (x'.id : Nat))) := by
    refine Fr.trans (Fr.trans Hf3.out Hf5.out (U := F) (fun _ _ h => h.elim) (fun _ _ h => h)) hs (fun _ _ h => h) (fun b hb e => ?_)
    unfold oneB at e; subst e
    rcases Hn5.out.foot with h | h
    · exact h
    · exfalso
      have := Hf3.out.size
      have h1 : w4.drew.heap.size = w4.heap.size := rfl
      omega
  obtain ⟨_, _, hrl, hrr⟩ := Hr.out
  have hl5 := Hn5.out.len
  have hperm := put_perm p v l ⟨N.length, fr⟩
  have hni : i ∉ x'.ids := fun hi => by
    have h1 : i ∈ l.ids ++ (fr ++ newIds ⟨N.length, fr⟩ (putT l p v ⟨N.length, fr⟩).s) := hperm.subset (List.mem_append_left _ (by rw [hx']; exact hi))
    rcases List.mem_append.1 h1 with h2 | h2
    · exact Hnd.out.1.1.1 h2
    · rcases List.mem_append.1 h2 with h2 | h2
      · exact Hnd.out.1.2 h2
      · have := List.mem_range'_1.1 h2
        have h3 := Hn.out.len
        simp only at this
        omega
  have hoth2 : ∀ j ∈ r.ids, (N'.set i ⟨q, qv, th, x'.id, r.id⟩)[j]? = N[j]? := fun j hj => by
    have hjl : j < N.length := (hrr.lt j hj).2
    have hnj : ¬ i = j := fun e => Hnd.out.1.1.2 (e ▸ hj)
    rw [List.getElem?_set_ne hnj]
    have hn2 := Hnd.out.2
    simp only [List.append_assoc] at hn2
    exact Hoth.out j hjl (fun h => (List.nodup_append.1 hn2).2.2 j h j (List.mem_append_left _ hj) rfl) (fun h => (List.nodup_append.1 (List.nodup_append.1 hn2).2.1).2.2 j hj j h rfl)
  refine ⟨N'.set i ⟨q, qv, th, x'.id, r.id⟩, rfl, (hset.later' (fun b hb => by rcases hb with hb | hb; exact .inl hb; exact .inr ⟨Nat.le_trans Hf3.out.size hb.1, by have := hs.size; have := hb.2; omega⟩) H.out.lt hF.size), by rw [List.length_set]; exact Hlen.out, ?_, fun j hj hji hjf => ?_, hF⟩
  · exact ⟨Hr.out.1, List.getElem?_set_self (by omega), Hrep.out.keep (fun j hj => List.getElem?_set_ne (fun e => hni (by rw [e]; exact hj))), hrr.keep hoth2⟩
  · have hnj : ¬ i = j := fun e => hji (by simp [T.ids, e])
    rw [List.getElem?_set_ne hnj]
    exact Hoth.out j hj (fun h => hji (by simp [T.ids, h])) hjf
end Go.Proofs.Ytgjabgneapdbiaa
