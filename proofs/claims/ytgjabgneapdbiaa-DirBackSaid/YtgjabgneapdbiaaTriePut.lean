/- trie.put, Set. Written by a program (gen_trie_put.py). -/
import Derived.Test.YtgjabgneapdbiaaTrieMem
namespace Go.Proofs.Ytgjabgneapdbiaa
open Go.RowKit Go.BigFrame
set_option linter.unusedSimpArgs false
set_option linter.unusedVariables false
attribute [local irreducible] wpMix wpAnyG

def PutTo (w : World) (F : Nat → Prop) (g : Nat) (N : List NodeM) (fr : List Nat) (root many : Nat) (x : PutR) (ids : List Nat) (e : Ending) (w' : World) : Prop :=
  ∃ N', e = .returned (.int .i64 (x.t.id : Nat)) ∧ TrieAt w' (gr F w w') g N' x.s.free root (many + x.new) ∧ N'.length = x.s.n ∧ RepT N' x.t ∧ (∀ i, i < N.length → i ∉ ids → i ∉ fr → N'[i]? = N[i]?) ∧ Fr F w w'

set_option maxRecDepth 100000 in
set_option maxHeartbeats 2000000 in
theorem put_nil (w : World) (F : Nat → Prop) (g : Nat) (N : List NodeM) (fr : List Nat) (root many : Nat) (h : TrieAt w F g N fr root many) (ha : AlOk N fr []) (h0 : 0 < N.length) (hN : N.length + 2 ≤ 1000000) (hm : many + 2 ≤ 1000000) (p : PrefixM) (v : Int) :
    Calls Try.prog 53 #[.pointer (some ⟨g, 0, none⟩), .int .i64 ((0 : Nat) : Int), .agg p.cells.toArray, .int .i64 v] w (PutTo w F g N fr root many (putT .nil p v ⟨N.length, fr⟩) []) := by
  have H := hide h; have Ha := hide ha
  have hgl := h.lt g h.here
  clear h
  go_enter Try.func53, Try.ntmps53
  go_upto_region 2 with (first | (refine wpList_load_at rfl 28 _ rfl _ _ rfl (PrefixM.cells _) (by (repeat (first | assumption | exact cells_new _ _ _ (by simp) | refine CellsAt.alloc ?_ _ | refine CellsAt.drew ?_ | refine CellsAt.drewN ?_ _))) _ Try.underlying28 rfl (by kernel_rfl) ?_) | (refine wpList_build_as rfl 87 _ rfl (NodeM.mk p v true 0 0).cells.toArray (by kernel_rfl) ?_) | (refine wpList_store_new rfl 87 _ _ rfl _ _ (NodeM.cells ⟨p, v, true, 0, 0⟩) _ rfl rfl (by simp) (by kernel_rfl) rfl (by kernel_rfl) ?_))
  refine wp_gen (fun W => CellsAt W (w.heap.size + 1) 0 (NodeM.mk p v true 0 0).cells ∧ Fr noB w W ∧ W.heap.size = w.heap.size + 1 + 1) ⟨by (repeat (first | assumption | exact cells_new _ _ _ (by simp) | refine CellsAt.alloc ?_ _ | refine CellsAt.drew ?_ | refine CellsAt.drewN ?_ _)), ((Fr.refl _ _).alloc _).alloc _, by simp⟩ ?_
  rintro w1 ⟨hcl, hf, hw1⟩
  have H1 := hide (H.out.frN hf)
  obtain ⟨_, c3, z3', hg1⟩ := H1.out.root_cell
  have z3 := z3' 3
  have Hcl := hide hcl; have Hf := hide hf
  clear hcl hf z3' ha
  go_upto_region 4 with (fail)
  refine wp_gen (fun W => TrieAt W F g N fr root (many + 1) ∧ Fr (oneB g) w1 W) ⟨H1.out.set_many rfl (by omega), (Fr.refl (oneB g) _).setCell (p := ⟨g, 3, none⟩) (.inr rfl) _⟩ ?_
  rintro w2 ⟨ht2, hf2⟩
  have hc2 : CellsAt w2 (w.heap.size + 1) 0 (NodeM.mk p v true 0 0).cells := Hcl.out.fr hf2 (fun e => by unfold oneB at e; omega)
  have Ht2 := hide ht2
  have Hf2 := hide (show Fr F w w2 from Fr.trans Hf.out hf2 (fun _ _ h => h.elim) (fun b _ e => by unfold oneB at e; subst e; exact H.out.here))
  clear ht2 hf2 c3 z3 hg1
  go_wp2_with (refine wpList_load_at rfl 87 _ rfl _ _ rfl (NodeM.cells _) (by (repeat (first | assumption | exact cells_new _ _ _ (by simp) | refine CellsAt.alloc ?_ _ | refine CellsAt.drew ?_ | refine CellsAt.drewN ?_ _))) _ Try.underlying87 rfl (by kernel_rfl) ?_)
  refine (trie_lay w2 F g N fr root (many + 1) Ht2.out (fun i hi => (Ha.out.bd i hi).2) (by omega) _).mono ?_
  rintro e w3 ⟨rfl, ht3, hf3⟩
  have Ht3 := hide ht3; have Hf3 := hide hf3
  clear ht3 hf3 hc2
  go_wp2_with fail
  go_ret
  refine ⟨layN N fr (NodeM.mk p v true 0 0), rfl, Ht3.out.later H.out.lt Hf2.out.size Hf3.out.size, layN_length _ _ _, ⟨lay_pos h0 (fun i hi => (Ha.out.bd i hi).1), layN_at _ (fun i hi => (Ha.out.bd i hi).2), trivial, trivial⟩, fun i hi _ hf => layN_other _ hi hf, Hf2.out.tr Hf3.out⟩

set_option maxRecDepth 100000 in
set_option maxHeartbeats 4000000 in
theorem put_same (w : World) (F : Nat → Prop) (g : Nat) (N : List NodeM) (fr : List Nat) (root many : Nat) (h : TrieAt w F g N fr root many) (i : Nat) (q : PrefixM) (qv : Int) (th : Bool) (l r : T) (hr : RepT N (.node i q qv th l r)) (hgood : Good (.node i q qv th l r))
    (ha : AlOk N fr (T.node i q qv th l r).ids) (hN : N.length + 2 ≤ 1000000) (hm : many + 2 ≤ 1000000) (p : PrefixM) (hp : okP p) (v : Int) (hc : comN p q = heldN q.len) (hd : comN p q = heldN p.len) :
    Calls Try.prog 53 #[.pointer (some ⟨g, 0, none⟩), .int .i64 ((i : Nat) : Int), .agg p.cells.toArray, .int .i64 v] w (PutTo w F g N fr root many (putT (.node i q qv th l r) p v ⟨N.length, fr⟩) (T.node i q qv th l r).ids) := by
  have H := hide h; have Hr := hide hr; have Ha := hide ha; have Hgood := hide hgood
  have hgl := h.lt g h.here
  have hq : okP q := hgood.1
  have hi0 := hr.1
  have hNi := hr.2.1
  have Hp := hide hp; have Hq := hide hq; have HNi := hide hNi
  clear h hr ha hgood
  go_enter Try.func53, Try.ntmps53
  go_upto_region 2 with (first | (refine wpList_load_at rfl 28 _ rfl _ _ rfl (PrefixM.cells _) (by (repeat (first | assumption | exact cells_new _ _ _ (by simp) | refine CellsAt.alloc ?_ _ | refine CellsAt.drew ?_ | refine CellsAt.drewN ?_ _))) _ Try.underlying28 rfl (by kernel_rfl) ?_) | (refine wpList_build_as rfl 87 _ rfl (NodeM.mk p v true 0 0).cells.toArray (by kernel_rfl) ?_) | (refine wpList_store_new rfl 87 _ _ rfl _ _ (NodeM.cells ⟨p, v, true, 0, 0⟩) _ rfl rfl (by simp) (by kernel_rfl) rfl (by kernel_rfl) ?_))
  refine wp_gen (fun W => CellsAt W w.heap.size 0 p.cells ∧ Blk W (w.heap.size + 1) (NodeM.mk p v true 0 0).cells.toArray 87 ∧ Fr noB w W ∧ W.heap.size = w.heap.size + 1 + 1) ⟨by (repeat (first | assumption | exact cells_new _ _ _ (by simp) | refine CellsAt.alloc ?_ _ | refine CellsAt.drew ?_ | refine CellsAt.drewN ?_ _)), by have := Blk.alloc_new (w.alloc (.cells p.cells.toArray 28)) (NodeM.mk p v true 0 0).cells.toArray 87; rw [World.size_alloc] at this; exact this, ((Fr.refl _ _).alloc _).alloc _, by simp⟩ ?_
  rintro w1 ⟨hcp, hbl, hf, hw1'⟩
  have hw1 : w.heap.size + 1 < w1.heap.size := by omega
  clear hw1'
  obtain ⟨gn, nl, nc, hn⟩ := (H.out.frN hf).node hNi
  have hcq : CellsAt w1 gn (i * 6) q.cells := node_pfx hn.cells
  have c0 := hn.head
  have hin := hn.lt
  have hnlm := hn.nlm
  have hmul : ((i : Int) * 6).toNat = i * 6 := by omega
  have Hcp := hide hcp; have Hbl := hide hbl; have Hf := hide hf
  clear hcp hbl hf hn hNi hp hq
  go_upto_region 6 with (first | (refine wpList_load_at rfl 28 _ rfl _ _ rfl (PrefixM.cells _) (by (repeat (first | assumption | exact cells_new _ _ _ (by simp) | refine CellsAt.alloc ?_ _ | refine CellsAt.drew ?_ | refine CellsAt.drewN ?_ _))) _ Try.underlying28 rfl (by kernel_rfl) ?_) | (refine wpList_store_new rfl 28 _ _ rfl _ _ q.cells _ rfl rfl (by simp) (by kernel_rfl) rfl (by kernel_rfl) ?_))
  refine wp_gen (fun W => CellsAt W w1.heap.size 0 q.cells ∧ Fr noB w1 W ∧ w1.heap.size < W.heap.size) ⟨cells_new _ _ _ rfl, (Fr.refl _ _).alloc _, by simp⟩ ?_
  rintro w2 ⟨hcq2, hf2, hw2⟩
  have hcp2 : CellsAt w2 w.heap.size 0 p.cells := Hcp.out.fr hf2 (fun h => h)
  have Hcq2 := hide hcq2; have Hf2 := hide (Hf.out.tr hf2); have Hcp2 := hide hcp2; have Hbl2 := hide (Hbl.out.fr hf2 (fun h => h))
  clear hcq c0 hin hnlm hf2
  go_wp2_with (refine wpList_load_at rfl 28 _ rfl _ _ rfl (PrefixM.cells _) (by (repeat (first | assumption | exact cells_new _ _ _ (by simp) | refine CellsAt.alloc ?_ _ | refine CellsAt.drew ?_ | refine CellsAt.drewN ?_ _))) _ Try.underlying28 rfl (by kernel_rfl) ?_)
  refine (trie_common p q Hp.out Hq.out _).mono ?_
  rintro e w3 ⟨rfl, hf3⟩
  have hw3 : w.heap.size + 1 + 1 < w3.heap.size := by have := hf3.size; omega
  obtain ⟨p0, p1⟩ := pfx_now (Hcp2.out.fr hf3 (fun h => h))
  obtain ⟨q0, q1⟩ := pfx_now (Hcq2.out.fr hf3 (fun h => h))
  simp only [Nat.zero_add] at p1 q1
  have Hf3 := hide (Hf2.out.tr hf3); have Hcp3 := hide (Hcp2.out.fr hf3 (fun h => h)); have Hbl3 := hide (Hbl2.out.fr hf3 (fun h => h))
  have H3 := hide (H.out.frN Hf3.out)
  clear hcq2 hcp2 hf3 hw2
  obtain ⟨_, c3, z3', hg3⟩ := H3.out.root_cell
  have z3 := z3' 3
  clear z3'
  have hc1 := Hq.out.cast; have hc2 := Hp.out.cast
  have t1 : (((comN p q : Nat) : Int) == q.len) = true := by simp only [beq_iff_eq]; omega
  have t2 : (((comN p q : Nat) : Int) == p.len) = true := by simp only [beq_iff_eq]; omega
  have HX := hide (show putT (.node i q qv th l r) p v ⟨N.length, fr⟩ = ⟨.node i q v true l r, ⟨N.length, fr⟩, if th then 0 else 1⟩ from by unfold putT; rw [if_pos hc, if_pos hd])
  generalize comN p q = c at *
  clear hc hd hc1 hc2
  obtain ⟨gn, nl, nc, hn⟩ := H3.out.node HNi.out
  have c0 := hn.head
  have hin := hn.lt
  have hnlm := hn.nlm
  have cth : w3.cell? ⟨gn, i * 6 + 3, none⟩ = some (.bool th) := hn.cells 3 _ rfl
  have Hn := hide hn
  clear hn
  cases th with
  | true =>
    go_upto_region 10 with (fail)
    refine wp_gen (fun W => TrieAt W F g N fr root (many + 0) ∧ Fr (oneB g) w3 W) ⟨H3.out, Fr.refl _ _⟩ ?_
    rintro w4 ⟨ht4, hf4⟩
    have Ht4 := hide ht4; have Hf4 := hide hf4
    clear ht4 hf4 c3 z3 hg3 c0 hin hnlm cth p0 p1 q0 q1 t1 t2
    obtain ⟨gn, nl, nc, hn⟩ := Ht4.out.node HNi.out
    have hin := hn.lt
    have hnlm := hn.nlm
    have hgn := hn.block
    have cv : w4.cell? ⟨gn, i * 6 + 2, none⟩ = some (.int .i64 qv) := hn.cells 2 _ rfl
    have cth : w4.cell? ⟨gn, i * 6 + 3, none⟩ = some (.bool true) := hn.cells 3 _ rfl
    have zv := hn.free (i * 6 + 2)
    have zt := hn.free (i * 6 + 3)
    have hg4 : ∀ z : GrowS (oneB gn) w4, z.v.cell? ⟨g, 0, none⟩ = some (.slice (some ⟨gn, 0, none⟩) nl nc) := fun z => GrowS.cell hn.head (fun e => hn.ne e.symm) z
    have Hn := hide hn
    clear hn
    refine wp_region_mix (fun W => ∃ z : GrowS (oneB gn) w4, W = z.v) (by kernel_rfl) (by kernel_rfl) (inGrowS (Fr.refl _ _).drew) ?_
    iterate 13 (first | (refine wpMix_skip rfl ?_; simp only [Act.put, List.setIfInBounds_toArray, List.set_cons_succ, List.set_cons_zero]) | (refine wpMix_calm rfl rfl (fun K hK => ?_); go_big_quiet_op; refine hK _ ?_; clear hK K))
    refine wpMix_spine rfl rfl (fun K hK => ?_); go_wp2_with fail
    refine hK _ _ rfl (inGrowS ((Fr.refl (oneB gn) w4).drew.setCell (p := ⟨gn, i * 6 + 2, none⟩) (.inr rfl) _)) ?_
    clear hK K
    iterate 2 (first | (refine wpMix_skip rfl ?_; simp only [Act.put, List.setIfInBounds_toArray, List.set_cons_succ, List.set_cons_zero]) | (refine wpMix_calm rfl rfl (fun K hK => ?_); go_big_quiet_op; refine hK _ ?_; clear hK K))
    refine wpMix_spine rfl rfl (fun K hK => ?_); go_wp2_with fail
    refine hK _ _ rfl (inGrowS (((Fr.refl (oneB gn) w4).drew.setCell (p := ⟨gn, i * 6 + 2, none⟩) (.inr rfl) _).setCell (p := ⟨gn, i * 6 + 3, none⟩) (.inr rfl) _)) ?_
    clear hK K
    repeat (first | (refine wpMix_skip rfl ?_; simp only [Act.put, List.setIfInBounds_toArray, List.set_cons_succ, List.set_cons_zero]) | (refine wpMix_calm rfl rfl (fun K hK => ?_); go_big_quiet_op; refine hK _ ?_; clear hK K))
    refine wpMix_nil ?_
    have hset : TrieAt ((w4.setCell ⟨gn, i * 6 + 2, none⟩ (.int .i64 v)).setCell ⟨gn, i * 6 + 3, none⟩ (.bool true)) F g (N.set i ⟨q, v, true, l.id, r.id⟩) fr root (many + 0) := by
      have h1 := Hn.out.set 2 (.int .i64 v) ⟨q, v, true, l.id, r.id⟩ (by decide) rfl
      obtain ⟨gn', nl', nc', hn'⟩ := h1.node (i := i) (x := ⟨q, v, true, l.id, r.id⟩) (by rw [List.getElem?_set_self (by have := Hn.out.len; omega)])
      have e : gn' = gn := by
        have a := hn'.head
        rw [((Fr.refl (oneB gn) w4).setCell (p := ⟨gn, i * 6 + 2, none⟩) (.inr rfl) (.int .i64 v)).cell (by have := Ht4.out.lt g Ht4.out.here; exact this) (fun e => Hn.out.ne e.symm), Hn.out.head] at a
        simp only [Option.some.injEq, Value.slice.injEq, Addr.mk.injEq, and_true] at a
        exact a.1.symm
      subst e
      have h2 := hn'.set 3 (.bool true) ⟨q, v, true, l.id, r.id⟩ (by decide) rfl
      rwa [List.set_set] at h2
    have Ht5 := hide (hset.frN (Fr.refl noB _).drew)
    have Hf5 := hide (show Fr (oneB gn) w4 ((w4.setCell ⟨gn, i * 6 + 2, none⟩ (.int .i64 v)).setCell ⟨gn, i * 6 + 3, none⟩ (.bool true)).drew from (((Fr.refl (oneB gn) w4).setCell (p := ⟨gn, i * 6 + 2, none⟩) (.inr rfl) _).setCell (p := ⟨gn, i * 6 + 3, none⟩) (.inr rfl) _).drew)
    clear hset hg4 cv cth zv zt
    go_wp2_with fail
    go_ret
    unfold PutTo
    rw [HX.out]
    have hF : Fr F w _ := Fr.trans (Fr.trans Hf3.out Hf4.out (U := F) (fun _ _ h => h.elim) (fun b _ e => by unfold oneB at e; subst e; exact H.out.here)) Hf5.out (fun _ _ h => h) (fun b _ e => by unfold oneB at e; subst e; exact Hn.out.foot)
    have hil := Hn.out.len
    obtain ⟨_, _, hrl, hrr⟩ := Hr.out
    have hnd := Ha.out.nodup
    simp only [T.ids, List.cons_append, List.nodup_cons, List.mem_append, not_or] at hnd
    refine ⟨_, rfl, (Ht5.out.grow (w := w) hF.size H.out.lt), List.length_set, ⟨Hr.out.1, List.getElem?_set_self (by omega), hrl.keep (fun j hj => List.getElem?_set_ne (fun e => ?_)), hrr.keep (fun j hj => List.getElem?_set_ne (fun e => ?_))⟩, fun j _ hj _ => List.getElem?_set_ne (fun e => hj (by simp [T.ids, e])), hF⟩
    · subst e; exact hnd.1.1.1 hj
    · subst e; exact hnd.1.1.2 hj
  | false =>
    go_upto_region 10 with (fail)
    refine wp_gen (fun W => TrieAt W F g N fr root (many + 1) ∧ Fr (oneB g) w3 W) ⟨H3.out.set_many rfl (by omega), (Fr.refl (oneB g) _).setCell (p := ⟨g, 3, none⟩) (.inr rfl) _⟩ ?_
    rintro w4 ⟨ht4, hf4⟩
    have Ht4 := hide ht4; have Hf4 := hide hf4
    clear ht4 hf4 c3 z3 hg3 c0 hin hnlm cth p0 p1 q0 q1 t1 t2
    obtain ⟨gn, nl, nc, hn⟩ := Ht4.out.node HNi.out
    have hin := hn.lt
    have hnlm := hn.nlm
    have hgn := hn.block
    have cv : w4.cell? ⟨gn, i * 6 + 2, none⟩ = some (.int .i64 qv) := hn.cells 2 _ rfl
    have cth : w4.cell? ⟨gn, i * 6 + 3, none⟩ = some (.bool false) := hn.cells 3 _ rfl
    have zv := hn.free (i * 6 + 2)
    have zt := hn.free (i * 6 + 3)
    have hg4 : ∀ z : GrowS (oneB gn) w4, z.v.cell? ⟨g, 0, none⟩ = some (.slice (some ⟨gn, 0, none⟩) nl nc) := fun z => GrowS.cell hn.head (fun e => hn.ne e.symm) z
    have Hn := hide hn
    clear hn
    refine wp_region_mix (fun W => ∃ z : GrowS (oneB gn) w4, W = z.v) (by kernel_rfl) (by kernel_rfl) (inGrowS (Fr.refl _ _).drew) ?_
    iterate 13 (first | (refine wpMix_skip rfl ?_; simp only [Act.put, List.setIfInBounds_toArray, List.set_cons_succ, List.set_cons_zero]) | (refine wpMix_calm rfl rfl (fun K hK => ?_); go_big_quiet_op; refine hK _ ?_; clear hK K))
    refine wpMix_spine rfl rfl (fun K hK => ?_); go_wp2_with fail
    refine hK _ _ rfl (inGrowS ((Fr.refl (oneB gn) w4).drew.setCell (p := ⟨gn, i * 6 + 2, none⟩) (.inr rfl) _)) ?_
    clear hK K
    iterate 2 (first | (refine wpMix_skip rfl ?_; simp only [Act.put, List.setIfInBounds_toArray, List.set_cons_succ, List.set_cons_zero]) | (refine wpMix_calm rfl rfl (fun K hK => ?_); go_big_quiet_op; refine hK _ ?_; clear hK K))
    refine wpMix_spine rfl rfl (fun K hK => ?_); go_wp2_with fail
    refine hK _ _ rfl (inGrowS (((Fr.refl (oneB gn) w4).drew.setCell (p := ⟨gn, i * 6 + 2, none⟩) (.inr rfl) _).setCell (p := ⟨gn, i * 6 + 3, none⟩) (.inr rfl) _)) ?_
    clear hK K
    repeat (first | (refine wpMix_skip rfl ?_; simp only [Act.put, List.setIfInBounds_toArray, List.set_cons_succ, List.set_cons_zero]) | (refine wpMix_calm rfl rfl (fun K hK => ?_); go_big_quiet_op; refine hK _ ?_; clear hK K))
    refine wpMix_nil ?_
    have hset : TrieAt ((w4.setCell ⟨gn, i * 6 + 2, none⟩ (.int .i64 v)).setCell ⟨gn, i * 6 + 3, none⟩ (.bool true)) F g (N.set i ⟨q, v, true, l.id, r.id⟩) fr root (many + 1) := by
      have h1 := Hn.out.set 2 (.int .i64 v) ⟨q, v, false, l.id, r.id⟩ (by decide) rfl
      obtain ⟨gn', nl', nc', hn'⟩ := h1.node (i := i) (x := ⟨q, v, false, l.id, r.id⟩) (by rw [List.getElem?_set_self (by have := Hn.out.len; omega)])
      have e : gn' = gn := by
        have a := hn'.head
        rw [((Fr.refl (oneB gn) w4).setCell (p := ⟨gn, i * 6 + 2, none⟩) (.inr rfl) (.int .i64 v)).cell (by have := Ht4.out.lt g Ht4.out.here; exact this) (fun e => Hn.out.ne e.symm), Hn.out.head] at a
        simp only [Option.some.injEq, Value.slice.injEq, Addr.mk.injEq, and_true] at a
        exact a.1.symm
      subst e
      have h2 := hn'.set 3 (.bool true) ⟨q, v, true, l.id, r.id⟩ (by decide) rfl
      rwa [List.set_set] at h2
    have Ht5 := hide (hset.frN (Fr.refl noB _).drew)
    have Hf5 := hide (show Fr (oneB gn) w4 ((w4.setCell ⟨gn, i * 6 + 2, none⟩ (.int .i64 v)).setCell ⟨gn, i * 6 + 3, none⟩ (.bool true)).drew from (((Fr.refl (oneB gn) w4).setCell (p := ⟨gn, i * 6 + 2, none⟩) (.inr rfl) _).setCell (p := ⟨gn, i * 6 + 3, none⟩) (.inr rfl) _).drew)
    clear hset hg4 cv cth zv zt
    go_wp2_with fail
    go_ret
    unfold PutTo
    rw [HX.out]
    have hF : Fr F w _ := Fr.trans (Fr.trans Hf3.out Hf4.out (U := F) (fun _ _ h => h.elim) (fun b _ e => by unfold oneB at e; subst e; exact H.out.here)) Hf5.out (fun _ _ h => h) (fun b _ e => by unfold oneB at e; subst e; exact Hn.out.foot)
    have hil := Hn.out.len
    obtain ⟨_, _, hrl, hrr⟩ := Hr.out
    have hnd := Ha.out.nodup
    simp only [T.ids, List.cons_append, List.nodup_cons, List.mem_append, not_or] at hnd
    refine ⟨_, rfl, (Ht5.out.grow (w := w) hF.size H.out.lt), List.length_set, ⟨Hr.out.1, List.getElem?_set_self (by omega), hrl.keep (fun j hj => List.getElem?_set_ne (fun e => ?_)), hrr.keep (fun j hj => List.getElem?_set_ne (fun e => ?_))⟩, fun j _ hj _ => List.getElem?_set_ne (fun e => hj (by simp [T.ids, e])), hF⟩
    · subst e; exact hnd.1.1.1 hj
    · subst e; exact hnd.1.1.2 hj
end Go.Proofs.Ytgjabgneapdbiaa
