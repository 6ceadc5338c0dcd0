/- trie.put: ahead of what it covers. Written by a program (gen_trie_put.py). -/
import Derived.Test.YtgjabgneapdbiaaTriePut
namespace Go.Proofs.Ytgjabgneapdbiaa
open Go.RowKit Go.BigFrame
set_option linter.unusedSimpArgs false
set_option linter.unusedVariables false
attribute [local irreducible] wpMix wpAnyG

set_option maxRecDepth 100000 in
set_option maxHeartbeats 4000000 in
theorem put_up0 (w : World) (F : Nat → Prop) (g : Nat) (N : List NodeM) (fr : List Nat) (root many : Nat) (h : TrieAt w F g N fr root many) (i : Nat) (q : PrefixM) (qv : Int) (th : Bool) (l r : T) (hr : RepT N (.node i q qv th l r)) (hgood : Good (.node i q qv th l r))
    (ha : AlOk N fr (T.node i q qv th l r).ids) (hN : N.length + 2 ≤ 1000000) (hm : many + 2 ≤ 1000000) (p : PrefixM) (hp : okP p) (v : Int) (hc : comN p q ≠ heldN q.len) (hd : comN p q = heldN p.len) (hk : halfB q.addr (heldN p.len) = 0) :
    Calls Try.prog 53 #[.pointer (some ⟨g, 0, none⟩), .int .i64 ((i : Nat) : Int), .agg p.cells.toArray, .int .i64 v] w (PutTo w F g N fr root many (putT (.node i q qv th l r) p v ⟨N.length, fr⟩) (T.node i q qv th l r).ids) := by
  have H := hide h; have Hr := hide hr; have Ha := hide ha; have Hgood := hide hgood
  have hgl := h.lt g h.here
  have hq : okP q := hgood.1
  have hi0 := hr.1
  have hNi := hr.2.1
  have Hp := hide hp; have Hq := hide hq; have HNi := hide hNi
  clear h hr ha hgood
  go_enter Try.func53, Try.ntmps53
  go_upto_region 2 with (first | (refine wpList_load_at rfl 28 _ rfl _ _ rfl (PrefixM.cells _) (by (repeat (first | assumption | exact cells_new _ _ _ (by simp) | refine CellsAt.alloc ?_ _ | refine CellsAt.drew ?_ | refine CellsAt.drewN ?_ _))) _ Try.underlying28 rfl (by kernel_rfl) ?_) | (refine wpList_build_as rfl 87 _ rfl (NodeM.mk p v true 0 0).cells.toArray (by kernel_rfl) ?_) | (refine wpList_store_new rfl 87 _ _ rfl _ _ (NodeM.cells ⟨p, v, true, 0, 0⟩) _ rfl rfl (by simp) (by kernel_rfl) rfl (by kernel_rfl) ?_))
  refine wp_gen (fun W => CellsAt W w.heap.size 0 p.cells ∧ Blk W (w.heap.size + 1) (NodeM.mk p v true 0 0).cells.toArray 87 ∧ Fr noB w W ∧ W.heap.size = w.heap.size + 1 + 1) ⟨by (repeat (first | assumption | exact cells_new _ _ _ (by simp) | refine CellsAt.alloc ?_ _ | refine CellsAt.drew ?_ | refine CellsAt.drewN ?_ _)), by have := Blk.alloc_new (w.alloc (.cells p.cells.toArray 28)) (NodeM.mk p v true 0 0).cells.toArray 87; rw [World.size_alloc] at this; exact this, ((Fr.refl _ _).alloc _).alloc _, by simp⟩ ?_
  rintro w1 ⟨hcp, hbl, hf, hw1'⟩
  have hw1 : w.heap.size + 1 < w1.heap.size := by omega
  clear hw1'
  obtain ⟨gn, nl, nc, hn⟩ := (H.out.frN hf).node hNi
  have hcq : CellsAt w1 gn (i * 6) q.cells := node_pfx hn.cells
  have c0 := hn.head
  have hin := hn.lt
  have hnlm := hn.nlm
  have hmul : ((i : Int) * 6).toNat = i * 6 := by omega
  have Hcp := hide hcp; have Hbl := hide hbl; have Hf := hide hf
  clear hcp hbl hf hn hNi hp hq
  go_upto_region 6 with (first | (refine wpList_load_at rfl 28 _ rfl _ _ rfl (PrefixM.cells _) (by (repeat (first | assumption | exact cells_new _ _ _ (by simp) | refine CellsAt.alloc ?_ _ | refine CellsAt.drew ?_ | refine CellsAt.drewN ?_ _))) _ Try.underlying28 rfl (by kernel_rfl) ?_) | (refine wpList_store_new rfl 28 _ _ rfl _ _ q.cells _ rfl rfl (by simp) (by kernel_rfl) rfl (by kernel_rfl) ?_))
  refine wp_gen (fun W => CellsAt W w1.heap.size 0 q.cells ∧ Fr noB w1 W ∧ w1.heap.size < W.heap.size) ⟨cells_new _ _ _ rfl, (Fr.refl _ _).alloc _, by simp⟩ ?_
  rintro w2 ⟨hcq2, hf2, hw2⟩
  have hcp2 : CellsAt w2 w.heap.size 0 p.cells := Hcp.out.fr hf2 (fun h => h)
  have Hcq2 := hide hcq2; have Hf2 := hide (Hf.out.tr hf2); have Hcp2 := hide hcp2; have Hbl2 := hide (Hbl.out.fr hf2 (fun h => h))
  clear hcq c0 hin hnlm hf2
  go_wp2_with (refine wpList_load_at rfl 28 _ rfl _ _ rfl (PrefixM.cells _) (by (repeat (first | assumption | exact cells_new _ _ _ (by simp) | refine CellsAt.alloc ?_ _ | refine CellsAt.drew ?_ | refine CellsAt.drewN ?_ _))) _ Try.underlying28 rfl (by kernel_rfl) ?_)
  refine (trie_common p q Hp.out Hq.out _).mono ?_
  rintro e w3 ⟨rfl, hf3⟩
  have hw3 : w.heap.size + 1 + 1 < w3.heap.size := by have := hf3.size; omega
  obtain ⟨p0, p1⟩ := pfx_now (Hcp2.out.fr hf3 (fun h => h))
  obtain ⟨q0, q1⟩ := pfx_now (Hcq2.out.fr hf3 (fun h => h))
  simp only [Nat.zero_add] at p1 q1
  have Hf3 := hide (Hf2.out.tr hf3); have Hcp3 := hide (Hcp2.out.fr hf3 (fun h => h)); have Hbl3 := hide (Hbl2.out.fr hf3 (fun h => h))
  have H3 := hide (H.out.frN Hf3.out)
  clear hcq2 hcp2 hf3 hw2
  obtain ⟨_, c3, z3', hg3⟩ := H3.out.root_cell
  have z3 := z3' 3
  clear z3'
  have hc1 := Hq.out.cast; have hc2 := Hp.out.cast
  have t1 : (((comN p q : Nat) : Int) == q.len) = false := by simp only [beq_eq_false_iff_ne, ne_eq]; omega
  have t2 : (((comN p q : Nat) : Int) == p.len) = true := by simp only [beq_iff_eq]; omega
  have HX := hide (show putT (.node i q qv th l r) p v ⟨N.length, fr⟩ = ⟨.node (layA ⟨N.length, fr⟩) p v true (.node i q qv th l r) .nil, layS ⟨N.length, fr⟩, 1⟩ from by rw [putT, if_neg hc, if_pos hd, if_pos hk])
  have hlt : comN p q < 32 := by have := heldN_le q.len; have := com_le (p := p) (q := q); omega
  have Hk := hide (show halfB q.addr (comN p q) = 0 from by rw [hd]; exact hk)
  have hql := Hq.out.lt
  generalize comN p q = c at *
  clear hc hd hc1 hc2 hk
  go_upto_region 19 with (fail)
  refine wp_gen (fun W => TrieAt W F g N fr root (many + 1) ∧ Fr (oneB g) w3 W) ⟨H3.out.set_many rfl (by omega), (Fr.refl (oneB g) _).setCell (p := ⟨g, 3, none⟩) (.inr rfl) _⟩ ?_
  rintro w4 ⟨ht4, hf4⟩
  have hl1 : w1.heap.size < w3.heap.size := block_of_cell q0
  have q04 : w4.cell? ⟨w1.heap.size, 0, none⟩ = some (.int .u32 (q.addr : Nat)) := (hf4.cell hl1 (fun e => by unfold oneB at e; omega)).trans q0
  have hb4 : Blk w4 (w.heap.size + 1) (NodeM.mk p v true 0 0).cells.toArray 87 := Hbl3.out.fr hf4 (fun e => by unfold oneB at e; omega)
  have Ht4 := hide ht4; have Hb4 := hide hb4
  have Hf4 := hide (show Fr F w w4 from Fr.trans Hf3.out hf4 (U := F) (fun _ _ h => h.elim) (fun b _ e => by unfold oneB at e; subst e; exact H.out.here))
  clear ht4 hf4 hb4 c3 z3 hg3 p0 p1 q0 q1 t1 t2 hl1
  go_wp2_with fail
  refine (trie_half q.addr c hql hlt _).mono ?_
  rintro e w5 ⟨rfl, rfl⟩
  rw [Hk.out]
  have ck : w5.cell? ⟨w.heap.size + 1, 4, none⟩ = some (.int .i64 0) := Hb4.out.cell 4
  have zk := Hb4.out.free 4
  have hbl4 := Hb4.out.lt
  clear q04 hlt hql
  go_upto_region 20 with (fail)
  refine wp_gen (fun W => CellsAt W (w.heap.size + 1) 0 (NodeM.mk p v true i 0).cells ∧ TrieAt W F g N fr root (many + 1) ∧ Fr F w W) ⟨Blk.cells (cs := (NodeM.mk p v true i 0).cells) (Hb4.out.set 4 (.int .i64 (i : Nat))), ?_, Hf4.out.setCell (p := ⟨w.heap.size + 1, 4, none⟩) (.inl (by simp only; omega)) _⟩ ?_
  · exact Ht4.out.fr ((Fr.refl (oneB (w.heap.size + 1)) w5).setCell (p := ⟨w.heap.size + 1, 4, none⟩) (.inr rfl) _) (fun b hb e => by unfold oneB at e; have := H.out.lt b hb; omega)
  rintro w6 ⟨hc6, ht6, hf6⟩
  have Ht6 := hide ht6; have Hf6 := hide hf6
  clear ht6 hf6 ck zk hbl4
  go_wp2_with (refine wpList_load_at rfl 87 _ rfl _ _ rfl (NodeM.cells _) (by (repeat (first | assumption | exact cells_new _ _ _ (by simp) | refine CellsAt.alloc ?_ _ | refine CellsAt.drew ?_ | refine CellsAt.drewN ?_ _))) _ Try.underlying87 rfl (by kernel_rfl) ?_)
  have hil := Hr.out.lt i (by simp [T.ids])
  refine (trie_lay w6 F g N fr root (many + 1) Ht6.out (fun i hi => (Ha.out.bd i hi).2) (by omega) _).mono ?_
  rintro e w7 ⟨rfl, ht7, hf7⟩
  have Ht7 := hide ht7; have Hf7 := hide hf7
  clear ht7 hf7 hc6
  go_wp2_with fail
  go_ret
  unfold PutTo
  rw [HX.out]
  have hnd := Ha.out.nodup
  rw [List.nodup_append] at hnd
  have hsub : RepT (layN N fr (NodeM.mk p v true i 0)) (.node i q qv th l r) := Hr.out.keep (fun j hj => layN_other _ (Hr.out.lt j hj).2 (fun h => hnd.2.2 j hj j h rfl))
  exact ⟨layN N fr (NodeM.mk p v true i 0), rfl, Ht7.out.later H.out.lt Hf6.out.size Hf7.out.size, layN_length _ _ _, ⟨lay_pos (by omega) (fun i hi => (Ha.out.bd i hi).1), layN_at _ (fun i hi => (Ha.out.bd i hi).2), hsub, trivial⟩, fun j hj _ hf => layN_other _ hj hf, Hf6.out.tr Hf7.out⟩

set_option maxRecDepth 100000 in
set_option maxHeartbeats 4000000 in
theorem put_up1 (w : World) (F : Nat → Prop) (g : Nat) (N : List NodeM) (fr : List Nat) (root many : Nat) (h : TrieAt w F g N fr root many) (i : Nat) (q : PrefixM) (qv : Int) (th : Bool) (l r : T) (hr : RepT N (.node i q qv th l r)) (hgood : Good (.node i q qv th l r))
    (ha : AlOk N fr (T.node i q qv th l r).ids) (hN : N.length + 2 ≤ 1000000) (hm : many + 2 ≤ 1000000) (p : PrefixM) (hp : okP p) (v : Int) (hc : comN p q ≠ heldN q.len) (hd : comN p q = heldN p.len) (hk : halfB q.addr (heldN p.len) = 1) :
    Calls Try.prog 53 #[.pointer (some ⟨g, 0, none⟩), .int .i64 ((i : Nat) : Int), .agg p.cells.toArray, .int .i64 v] w (PutTo w F g N fr root many (putT (.node i q qv th l r) p v ⟨N.length, fr⟩) (T.node i q qv th l r).ids) := by
  have H := hide h; have Hr := hide hr; have Ha := hide ha; have Hgood := hide hgood
  have hgl := h.lt g h.here
  have hq : okP q := hgood.1
  have hi0 := hr.1
  have hNi := hr.2.1
  have Hp := hide hp; have Hq := hide hq; have HNi := hide hNi
  clear h hr ha hgood
  go_enter Try.func53, Try.ntmps53
  go_upto_region 2 with (first | (refine wpList_load_at rfl 28 _ rfl _ _ rfl (PrefixM.cells _) (by (repeat (first | assumption | exact cells_new _ _ _ (by simp) | refine CellsAt.alloc ?_ _ | refine CellsAt.drew ?_ | refine CellsAt.drewN ?_ _))) _ Try.underlying28 rfl (by kernel_rfl) ?_) | (refine wpList_build_as rfl 87 _ rfl (NodeM.mk p v true 0 0).cells.toArray (by kernel_rfl) ?_) | (refine wpList_store_new rfl 87 _ _ rfl _ _ (NodeM.cells ⟨p, v, true, 0, 0⟩) _ rfl rfl (by simp) (by kernel_rfl) rfl (by kernel_rfl) ?_))
  refine wp_gen (fun W => CellsAt W w.heap.size 0 p.cells ∧ Blk W (w.heap.size + 1) (NodeM.mk p v true 0 0).cells.toArray 87 ∧ Fr noB w W ∧ W.heap.size = w.heap.size + 1 + 1) ⟨by (repeat (first | assumption | exact cells_new _ _ _ (by simp) | refine CellsAt.alloc ?_ _ | refine CellsAt.drew ?_ | refine CellsAt.drewN ?_ _)), by have := Blk.alloc_new (w.alloc (.cells p.cells.toArray 28)) (NodeM.mk p v true 0 0).cells.toArray 87; rw [World.size_alloc] at this; exact this, ((Fr.refl _ _).alloc _).alloc _, by simp⟩ ?_
  rintro w1 ⟨hcp, hbl, hf, hw1'⟩
  have hw1 : w.heap.size + 1 < w1.heap.size := by omega
  clear hw1'
  obtain ⟨gn, nl, nc, hn⟩ := (H.out.frN hf).node hNi
  have hcq : CellsAt w1 gn (i * 6) q.cells := node_pfx hn.cells
  have c0 := hn.head
  have hin := hn.lt
  have hnlm := hn.nlm
  have hmul : ((i : Int) * 6).toNat = i * 6 := by omega
  have Hcp := hide hcp; have Hbl := hide hbl; have Hf := hide hf
  clear hcp hbl hf hn hNi hp hq
  go_upto_region 6 with (first | (refine wpList_load_at rfl 28 _ rfl _ _ rfl (PrefixM.cells _) (by (repeat (first | assumption | exact cells_new _ _ _ (by simp) | refine CellsAt.alloc ?_ _ | refine CellsAt.drew ?_ | refine CellsAt.drewN ?_ _))) _ Try.underlying28 rfl (by kernel_rfl) ?_) | (refine wpList_store_new rfl 28 _ _ rfl _ _ q.cells _ rfl rfl (by simp) (by kernel_rfl) rfl (by kernel_rfl) ?_))
  refine wp_gen (fun W => CellsAt W w1.heap.size 0 q.cells ∧ Fr noB w1 W ∧ w1.heap.size < W.heap.size) ⟨cells_new _ _ _ rfl, (Fr.refl _ _).alloc _, by simp⟩ ?_
  rintro w2 ⟨hcq2, hf2, hw2⟩
  have hcp2 : CellsAt w2 w.heap.size 0 p.cells := Hcp.out.fr hf2 (fun h => h)
  have Hcq2 := hide hcq2; have Hf2 := hide (Hf.out.tr hf2); have Hcp2 := hide hcp2; have Hbl2 := hide (Hbl.out.fr hf2 (fun h => h))
  clear hcq c0 hin hnlm hf2
  go_wp2_with (refine wpList_load_at rfl 28 _ rfl _ _ rfl (PrefixM.cells _) (by (repeat (first | assumption | exact cells_new _ _ _ (by simp) | refine CellsAt.alloc ?_ _ | refine CellsAt.drew ?_ | refine CellsAt.drewN ?_ _))) _ Try.underlying28 rfl (by kernel_rfl) ?_)
  refine (trie_common p q Hp.out Hq.out _).mono ?_
  rintro e w3 ⟨rfl, hf3⟩
  have hw3 : w.heap.size + 1 + 1 < w3.heap.size := by have := hf3.size; omega
  obtain ⟨p0, p1⟩ := pfx_now (Hcp2.out.fr hf3 (fun h => h))
  obtain ⟨q0, q1⟩ := pfx_now (Hcq2.out.fr hf3 (fun h => h))
  simp only [Nat.zero_add] at p1 q1
  have Hf3 := hide (Hf2.out.tr hf3); have Hcp3 := hide (Hcp2.out.fr hf3 (fun h => h)); have Hbl3 := hide (Hbl2.out.fr hf3 (fun h => h))
  have H3 := hide (H.out.frN Hf3.out)
  clear hcq2 hcp2 hf3 hw2
  obtain ⟨_, c3, z3', hg3⟩ := H3.out.root_cell
  have z3 := z3' 3
  clear z3'
  have hc1 := Hq.out.cast; have hc2 := Hp.out.cast
  have t1 : (((comN p q : Nat) : Int) == q.len) = false := by simp only [beq_eq_false_iff_ne, ne_eq]; omega
  have t2 : (((comN p q : Nat) : Int) == p.len) = true := by simp only [beq_iff_eq]; omega
  have HX := hide (show putT (.node i q qv th l r) p v ⟨N.length, fr⟩ = ⟨.node (layA ⟨N.length, fr⟩) p v true .nil (.node i q qv th l r), layS ⟨N.length, fr⟩, 1⟩ from by rw [putT, if_neg hc, if_pos hd, if_neg (by omega)])
  have hlt : comN p q < 32 := by have := heldN_le q.len; have := com_le (p := p) (q := q); omega
  have Hk := hide (show halfB q.addr (comN p q) = 1 from by rw [hd]; exact hk)
  have hql := Hq.out.lt
  generalize comN p q = c at *
  clear hc hd hc1 hc2 hk
  go_upto_region 19 with (fail)
  refine wp_gen (fun W => TrieAt W F g N fr root (many + 1) ∧ Fr (oneB g) w3 W) ⟨H3.out.set_many rfl (by omega), (Fr.refl (oneB g) _).setCell (p := ⟨g, 3, none⟩) (.inr rfl) _⟩ ?_
  rintro w4 ⟨ht4, hf4⟩
  have hl1 : w1.heap.size < w3.heap.size := block_of_cell q0
  have q04 : w4.cell? ⟨w1.heap.size, 0, none⟩ = some (.int .u32 (q.addr : Nat)) := (hf4.cell hl1 (fun e => by unfold oneB at e; omega)).trans q0
  have hb4 : Blk w4 (w.heap.size + 1) (NodeM.mk p v true 0 0).cells.toArray 87 := Hbl3.out.fr hf4 (fun e => by unfold oneB at e; omega)
  have Ht4 := hide ht4; have Hb4 := hide hb4
  have Hf4 := hide (show Fr F w w4 from Fr.trans Hf3.out hf4 (U := F) (fun _ _ h => h.elim) (fun b _ e => by unfold oneB at e; subst e; exact H.out.here))
  clear ht4 hf4 hb4 c3 z3 hg3 p0 p1 q0 q1 t1 t2 hl1
  go_wp2_with fail
  refine (trie_half q.addr c hql hlt _).mono ?_
  rintro e w5 ⟨rfl, rfl⟩
  rw [Hk.out]
  have ck : w5.cell? ⟨w.heap.size + 1, 5, none⟩ = some (.int .i64 0) := Hb4.out.cell 5
  have zk := Hb4.out.free 5
  have hbl4 := Hb4.out.lt
  clear q04 hlt hql
  go_upto_region 20 with (fail)
  refine wp_gen (fun W => CellsAt W (w.heap.size + 1) 0 (NodeM.mk p v true 0 i).cells ∧ TrieAt W F g N fr root (many + 1) ∧ Fr F w W) ⟨Blk.cells (cs := (NodeM.mk p v true 0 i).cells) (Hb4.out.set 5 (.int .i64 (i : Nat))), ?_, Hf4.out.setCell (p := ⟨w.heap.size + 1, 5, none⟩) (.inl (by simp only; omega)) _⟩ ?_
  · exact Ht4.out.fr ((Fr.refl (oneB (w.heap.size + 1)) w5).setCell (p := ⟨w.heap.size + 1, 5, none⟩) (.inr rfl) _) (fun b hb e => by unfold oneB at e; have := H.out.lt b hb; omega)
  rintro w6 ⟨hc6, ht6, hf6⟩
  have Ht6 := hide ht6; have Hf6 := hide hf6
  clear ht6 hf6 ck zk hbl4
  go_wp2_with (refine wpList_load_at rfl 87 _ rfl _ _ rfl (NodeM.cells _) (by (repeat (first | assumption | exact cells_new _ _ _ (by simp) | refine CellsAt.alloc ?_ _ | refine CellsAt.drew ?_ | refine CellsAt.drewN ?_ _))) _ Try.underlying87 rfl (by kernel_rfl) ?_)
  have hil := Hr.out.lt i (by simp [T.ids])
  refine (trie_lay w6 F g N fr root (many + 1) Ht6.out (fun i hi => (Ha.out.bd i hi).2) (by omega) _).mono ?_
  rintro e w7 ⟨rfl, ht7, hf7⟩
  have Ht7 := hide ht7; have Hf7 := hide hf7
  clear ht7 hf7 hc6
  go_wp2_with fail
  go_ret
  unfold PutTo
  rw [HX.out]
  have hnd := Ha.out.nodup
  rw [List.nodup_append] at hnd
  have hsub : RepT (layN N fr (NodeM.mk p v true 0 i)) (.node i q qv th l r) := Hr.out.keep (fun j hj => layN_other _ (Hr.out.lt j hj).2 (fun h => hnd.2.2 j hj j h rfl))
  exact ⟨layN N fr (NodeM.mk p v true 0 i), rfl, Ht7.out.later H.out.lt Hf6.out.size Hf7.out.size, layN_length _ _ _, ⟨lay_pos (by omega) (fun i hi => (Ha.out.bd i hi).1), layN_at _ (fun i hi => (Ha.out.bd i hi).2), trivial, hsub⟩, fun j hj _ hf => layN_other _ hj hf, Hf6.out.tr Hf7.out⟩
end Go.Proofs.Ytgjabgneapdbiaa
