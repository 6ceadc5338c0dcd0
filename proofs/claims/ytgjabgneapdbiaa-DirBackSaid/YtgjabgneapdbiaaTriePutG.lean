/- trie.put: beside, a fork (2). Written by a program (gen_trie_put.py). -/
import Derived.Test.YtgjabgneapdbiaaTriePut
namespace Go.Proofs.Ytgjabgneapdbiaa
open Go.RowKit Go.BigFrame
set_option linter.unusedSimpArgs false
set_option linter.unusedVariables false
attribute [local irreducible] wpMix wpAnyG

set_option maxRecDepth 100000 in
set_option maxHeartbeats 4000000 in
theorem put_fork1 (w : World) (F : Nat → Prop) (g : Nat) (N : List NodeM) (fr : List Nat) (root many : Nat) (h : TrieAt w F g N fr root many) (i : Nat) (q : PrefixM) (qv : Int) (th : Bool) (l r : T) (hr : RepT N (.node i q qv th l r)) (hgood : Good (.node i q qv th l r))
    (ha : AlOk N fr (T.node i q qv th l r).ids) (hN : N.length + 2 ≤ 1000000) (hm : many + 2 ≤ 1000000) (p : PrefixM) (hp : okP p) (v : Int) (hc : comN p q ≠ heldN q.len) (hd : comN p q ≠ heldN p.len) (hk : halfB q.addr (comN p q) = 1) :
    Calls Try.prog 53 #[.pointer (some ⟨g, 0, none⟩), .int .i64 ((i : Nat) : Int), .agg p.cells.toArray, .int .i64 v] w (PutTo w F g N fr root many (putT (.node i q qv th l r) p v ⟨N.length, fr⟩) (T.node i q qv th l r).ids) := by
  have H := hide h; have Hr := hide hr; have Ha := hide ha; have Hgood := hide hgood
  have hgl := h.lt g h.here
  have hq : okP q := hgood.1
  have hi0 := hr.1
  have hNi := hr.2.1
  have Hp := hide hp; have Hq := hide hq; have HNi := hide hNi
  clear h hr ha hgood
  go_enter Try.func53, Try.ntmps53
  go_upto_region 2 with (first | (refine wpList_load_at rfl 28 _ rfl _ _ rfl (PrefixM.cells _) (by (repeat (first | assumption | exact cells_new _ _ _ (by simp) | refine CellsAt.alloc ?_ _ | refine CellsAt.drew ?_ | refine CellsAt.drewN ?_ _))) _ Try.underlying28 rfl (by kernel_rfl) ?_) | (refine wpList_build_as rfl 87 _ rfl (NodeM.mk p v true 0 0).cells.toArray (by kernel_rfl) ?_) | (refine wpList_store_new rfl 87 _ _ rfl _ _ (NodeM.cells ⟨p, v, true, 0, 0⟩) _ rfl rfl (by simp) (by kernel_rfl) rfl (by kernel_rfl) ?_))
  refine wp_gen (fun W => CellsAt W w.heap.size 0 p.cells ∧ Blk W (w.heap.size + 1) (NodeM.mk p v true 0 0).cells.toArray 87 ∧ Fr noB w W ∧ W.heap.size = w.heap.size + 1 + 1) ⟨by (repeat (first | assumption | exact cells_new _ _ _ (by simp) | refine CellsAt.alloc ?_ _ | refine CellsAt.drew ?_ | refine CellsAt.drewN ?_ _)), by have := Blk.alloc_new (w.alloc (.cells p.cells.toArray 28)) (NodeM.mk p v true 0 0).cells.toArray 87; rw [World.size_alloc] at this; exact this, ((Fr.refl _ _).alloc _).alloc _, by simp⟩ ?_
  rintro w1 ⟨hcp, hbl, hf, hw1'⟩
  have hw1 : w.heap.size + 1 < w1.heap.size := by omega
  clear hw1'
  obtain ⟨gn, nl, nc, hn⟩ := (H.out.frN hf).node hNi
  have hcq : CellsAt w1 gn (i * 6) q.cells := node_pfx hn.cells
  have c0 := hn.head
  have hin := hn.lt
  have hnlm := hn.nlm
  have hmul : ((i : Int) * 6).toNat = i * 6 := by omega
  have Hcp := hide hcp; have Hbl := hide hbl; have Hf := hide hf
  clear hcp hbl hf hn hNi hp hq
  go_upto_region 6 with (first | (refine wpList_load_at rfl 28 _ rfl _ _ rfl (PrefixM.cells _) (by (repeat (first | assumption | exact cells_new _ _ _ (by simp) | refine CellsAt.alloc ?_ _ | refine CellsAt.drew ?_ | refine CellsAt.drewN ?_ _))) _ Try.underlying28 rfl (by kernel_rfl) ?_) | (refine wpList_store_new rfl 28 _ _ rfl _ _ q.cells _ rfl rfl (by simp) (by kernel_rfl) rfl (by kernel_rfl) ?_))
  refine wp_gen (fun W => CellsAt W w1.heap.size 0 q.cells ∧ Fr noB w1 W ∧ w1.heap.size < W.heap.size) ⟨cells_new _ _ _ rfl, (Fr.refl _ _).alloc _, by simp⟩ ?_
  rintro w2 ⟨hcq2, hf2, hw2⟩
  have hcp2 : CellsAt w2 w.heap.size 0 p.cells := Hcp.out.fr hf2 (fun h => h)
  have Hcq2 := hide hcq2; have Hf2 := hide (Hf.out.tr hf2); have Hcp2 := hide hcp2; have Hbl2 := hide (Hbl.out.fr hf2 (fun h => h))
  clear hcq c0 hin hnlm hf2
  go_wp2_with (refine wpList_load_at rfl 28 _ rfl _ _ rfl (PrefixM.cells _) (by (repeat (first | assumption | exact cells_new _ _ _ (by simp) | refine CellsAt.alloc ?_ _ | refine CellsAt.drew ?_ | refine CellsAt.drewN ?_ _))) _ Try.underlying28 rfl (by kernel_rfl) ?_)
  refine (trie_common p q Hp.out Hq.out _).mono ?_
  rintro e w3 ⟨rfl, hf3⟩
  have hw3 : w.heap.size + 1 + 1 < w3.heap.size := by have := hf3.size; omega
  obtain ⟨p0, p1⟩ := pfx_now (Hcp2.out.fr hf3 (fun h => h))
  obtain ⟨q0, q1⟩ := pfx_now (Hcq2.out.fr hf3 (fun h => h))
  simp only [Nat.zero_add] at p1 q1
  have Hf3 := hide (Hf2.out.tr hf3); have Hcp3 := hide (Hcp2.out.fr hf3 (fun h => h)); have Hbl3 := hide (Hbl2.out.fr hf3 (fun h => h))
  have H3 := hide (H.out.frN Hf3.out)
  clear hcq2 hcp2 hf3 hw2
  obtain ⟨_, c3, z3', hg3⟩ := H3.out.root_cell
  have z3 := z3' 3
  clear z3'
  have hc1 := Hq.out.cast; have hc2 := Hp.out.cast
  have t1 : (((comN p q : Nat) : Int) == q.len) = false := by simp only [beq_eq_false_iff_ne, ne_eq]; omega
  have t2 : (((comN p q : Nat) : Int) == p.len) = false := by simp only [beq_eq_false_iff_ne, ne_eq]; omega
  have HX := hide (show putT (.node i q qv th l r) p v ⟨N.length, fr⟩ = ⟨.node (layA (layS ⟨N.length, fr⟩)) (cutP p (comN p q)) 0 false (.node (layA ⟨N.length, fr⟩) p v true .nil .nil) (.node i q qv th l r), layS (layS ⟨N.length, fr⟩), 1⟩ from by rw [putT, if_neg hc, if_neg hd, if_neg (by omega)])
  have hlt : comN p q < 32 := by have := heldN_le q.len; have := com_le (p := p) (q := q); omega
  have Hk := hide hk
  have Hk2 := hide (show halfB p.addr (comN p q) = 0 from by have := com_fork Hp.out Hq.out hd hc; have := halfB_lt p.addr (comN p q); omega)
  have hql := Hq.out.lt; have hpl := Hp.out.lt
  have Hcp := hide (show cutP p (comN p q) = normP ⟨p.addr, (comN p q : Nat)⟩ from rfl)
  generalize cutP p (comN p q) = cp at *
  generalize comN p q = c at *
  clear hc hd hc1 hc2 hk
  go_upto_region 22 with (fail)
  refine wp_gen (fun W => TrieAt W F g N fr root (many + 1) ∧ Fr (oneB g) w3 W) ⟨H3.out.set_many rfl (by omega), (Fr.refl (oneB g) _).setCell (p := ⟨g, 3, none⟩) (.inr rfl) _⟩ ?_
  rintro w4 ⟨ht4, hf4⟩
  have hl1 : w1.heap.size < w3.heap.size := block_of_cell q0
  have q04 : w4.cell? ⟨w1.heap.size, 0, none⟩ = some (.int .u32 (q.addr : Nat)) := (hf4.cell hl1 (fun e => by unfold oneB at e; omega)).trans q0
  have p04 : w4.cell? ⟨w.heap.size, 0, none⟩ = some (.int .u32 (p.addr : Nat)) := (hf4.cell (by omega) (fun e => by unfold oneB at e; omega)).trans p0
  have hb4 : Blk w4 (w.heap.size + 1) (NodeM.mk p v true 0 0).cells.toArray 87 := Hbl3.out.fr hf4 (fun e => by unfold oneB at e; omega)
  have Ht4 := hide ht4; have Hb4 := hide hb4; have Q04 := hide q04; have P04 := hide p04
  have Hf4 := hide (show Fr F w w4 from Fr.trans Hf3.out hf4 (U := F) (fun _ _ h => h.elim) (fun b _ e => by unfold oneB at e; subst e; exact H.out.here))
  have hw4 : w1.heap.size < w4.heap.size := hf4.lt hl1
  clear ht4 hf4 hb4 c3 z3 hg3 p0 p1 q0 q1 t1 t2 hl1 q04
  go_wp2_with (refine wpList_build_as rfl 28 _ rfl (PrefixM.mk p.addr (c : Nat)).cells.toArray (by kernel_rfl) ?_)
  refine (addr_Norm ⟨p.addr, (c : Nat)⟩ ⟨hpl, by unfold i64b; simp only; omega⟩ _).mono ?_
  rintro e w5 ⟨rfl, hf5⟩
  rw [← Hcp.out]
  have Hf5 := hide hf5
  have hw5 : w1.heap.size < w5.heap.size := hf5.lt hw4
  clear hf5 p04
  go_upto_region 23 with (first | (refine wpList_build_as rfl 87 _ rfl (NodeM.mk cp 0 false 0 0).cells.toArray (by kernel_rfl) ?_) | (refine wpList_store_new rfl 87 _ _ rfl _ _ (NodeM.cells (NodeM.mk cp 0 false 0 0)) _ rfl rfl (by simp) (by kernel_rfl) rfl (by kernel_rfl) ?_))
  refine wp_gen (fun W => Blk W w5.heap.size (NodeM.mk cp 0 false 0 0).cells.toArray 87 ∧ Fr noB w5 W ∧ w5.heap.size < W.heap.size) ⟨Blk.alloc_new _ _ _, (Fr.refl _ _).alloc _, by simp⟩ ?_
  rintro w6 ⟨hb6, hf6, hw6⟩
  have Hb6 := hide hb6; have Hf6 := hide (Hf5.out.tr hf6)
  have q06 : w6.cell? ⟨w1.heap.size, 0, none⟩ = some (.int .u32 (q.addr : Nat)) := ((Hf5.out.tr hf6).cell hw4 (fun h => h)).trans Q04.out
  clear hb6 hf6
  go_wp2_with fail
  refine (trie_half q.addr c hql hlt _).mono ?_
  rintro e w7 ⟨rfl, rfl⟩
  rw [Hk.out]
  have ck : w7.cell? ⟨w5.heap.size, 5, none⟩ = some (.int .i64 0) := Hb6.out.cell 5
  have zk := Hb6.out.free 5
  clear q06 hql
  go_upto_region 24 with (fail)
  refine wp_gen (fun W => Blk W w5.heap.size (NodeM.mk cp 0 false 0 i).cells.toArray 87 ∧ Fr (oneB w5.heap.size) w7 W) ⟨Hb6.out.set 5 (.int .i64 (i : Nat)), (Fr.refl (oneB w5.heap.size) _).setCell (p := ⟨w5.heap.size, 5, none⟩) (.inr rfl) _⟩ ?_
  rintro w8 ⟨hb8, hf8⟩
  have h58 : Fr (oneB w5.heap.size) w4 w8 := Fr.trans Hf6.out hf8 (fun _ _ h => h.elim) (fun _ _ h => h)
  have hF5 : ∀ b, F b → ¬ oneB w5.heap.size b := fun b hb e => by unfold oneB at e; have := H.out.lt b hb; omega
  have Ht8 := hide (Ht4.out.fr h58 hF5)
  have hp8 : ∀ z : GrowS F w8, z.v.cell? ⟨w.heap.size, 0, none⟩ = some (.int .u32 (p.addr : Nat)) := fun z => GrowS.cell ((h58.cell (by omega) (fun e => by unfold oneB at e; omega)).trans P04.out) (fun hb => by have := H.out.lt _ hb; omega) z
  have Hl8 := hide (Hb4.out.fr h58 (fun e => by unfold oneB at e; omega))
  have Hb8 := hide hb8
  have Hf8 := hide (show Fr F w w8 from Fr.trans Hf4.out h58 (fun _ _ h => h) (fun b hb e => by unfold oneB at e; omega))
  have hw8 : w5.heap.size < w8.heap.size := hb8.lt
  have hil := Hr.out.lt i (by simp [T.ids])
  clear hb8 hf8 h58 ck zk hF5
  refine wp_region_mixT 9 (fun W => ∃ z : GrowS F w8, W = z.v) (by kernel_rfl) (by kernel_rfl) (inGrowS (Fr.refl _ _).drew) ?_
  simp only [List.take_succ_cons, List.take_zero, List.drop_succ_cons, List.drop_zero]
  iterate 3 (first | (refine wpMix_skip rfl ?_; simp only [Act.put, List.setIfInBounds_toArray, List.set_cons_succ, List.set_cons_zero]) | (refine wpMix_calm rfl rfl (fun K hK => ?_); go_big_quiet_op; refine hK _ ?_; clear hK K))
  refine wpMix_spine rfl rfl (fun K hK => ?_); go_wp2_with fail
  refine (trie_half p.addr c hpl hlt _).mono ?_
  rintro e w9 ⟨rfl, rfl⟩
  rw [Hk2.out]
  refine hK _ _ rfl (inGrowS (Fr.refl _ _).drew) ?_
  clear hK K
  (first | (refine wpMix_skip rfl ?_; simp only [Act.put, List.setIfInBounds_toArray, List.set_cons_succ, List.set_cons_zero]) | (refine wpMix_calm rfl rfl (fun K hK => ?_); go_big_quiet_op; refine hK _ ?_; clear hK K))
  refine wpMix_load_atw rfl 87 (.tmp 9) rfl _ _ rfl (NodeM.mk p v true 0 0).cells (fun W hW => by obtain ⟨z, rfl⟩ := hW; exact Blk.cells (Hl8.out.fr z.fr (fun hb => by have := H.out.lt _ hb; omega))) _ Try.underlying87 rfl (by kernel_rfl) ?_
  simp only [Act.put, List.setIfInBounds_toArray, List.set_cons_succ, List.set_cons_zero]
  refine wpMix_spine rfl rfl (fun K hK => ?_); go_wp2_with fail
  refine (trie_lay w8.drew F g N fr root (many + 1) (Ht8.out.frN (Fr.refl noB _).drew) (fun i hi => (Ha.out.bd i hi).2) (by omega) _).mono ?_
  rintro e w10 ⟨rfl, ht10, hf10'⟩
  have hf10 : Fr F w8 w10 := (Fr.refl F w8).drew.tr hf10'
  have Ht10 := hide ht10; have Hf10 := hide hf10
  refine hK _ _ rfl (inGrowS hf10) ?_
  clear hK K ht10 hf10 hf10' hp8 hlt hpl
  have Hb10 := hide (Hb8.out.fr Hf10.out (fun hb => by have := H.out.lt _ hb; omega))
  have ck : w10.cell? ⟨w5.heap.size, 4, none⟩ = some (.int .i64 0) := Hb10.out.cell 4
  have zk := Hb10.out.free 4
  have hw10 := Hb10.out.lt
  repeat (first | (refine wpMix_skip rfl ?_; simp only [Act.put, List.setIfInBounds_toArray, List.set_cons_succ, List.set_cons_zero]) | (refine wpMix_calm rfl rfl (fun K hK => ?_); go_big_quiet_op; refine hK _ ?_; clear hK K))
  refine wpMix_nil ?_
  generalize hi1 : layA ⟨N.length, fr⟩ = i1 at *
  have Hi1 := hide hi1
  clear hi1
  go_upto_region 25 with (fail)
  refine wp_gen (fun W => CellsAt W w5.heap.size 0 (NodeM.mk cp 0 false i1 i).cells ∧ Fr (oneB w5.heap.size) w10 W) ⟨Blk.cells (cs := (NodeM.mk cp 0 false i1 i).cells) (Hb10.out.set 4 (.int .i64 (i1 : Nat))), (Fr.refl (oneB w5.heap.size) _).setCell (p := ⟨w5.heap.size, 4, none⟩) (.inr rfl) _⟩ ?_
  rintro w11 ⟨hc11, hf11⟩
  have Ht11 := hide (Ht10.out.fr hf11 (fun b hb e => by unfold oneB at e; subst e; rcases hb with hb | hb; have := H.out.lt _ hb; omega; have h1 : w8.drew.heap.size = w8.heap.size := rfl; omega))
  have Hf11 := hide hf11
  clear hf11 ck zk hw10
  go_wp2_with (refine wpList_load_at rfl 87 _ rfl _ _ rfl (NodeM.cells _) (by (repeat (first | assumption | exact cells_new _ _ _ (by simp) | refine CellsAt.alloc ?_ _ | refine CellsAt.drew ?_ | refine CellsAt.drewN ?_ _))) _ Try.underlying87 rfl (by kernel_rfl) ?_)
  have hfr1 : ∀ j ∈ (layS ⟨N.length, fr⟩).free, 0 < j ∧ j < (layN N fr (NodeM.mk p v true 0 0)).length := fun j hj => by
    have h1 := Ha.out.bd j (lay_free_sub j hj)
    have h2 := layS_n ⟨N.length, fr⟩
    rw [layN_length]
    simp only at h2
    omega
  have hlen1 := layN_length N fr (NodeM.mk p v true 0 0)
  have hn1 := layS_n ⟨N.length, fr⟩
  simp only at hn1
  refine (trie_lay w11 _ g _ _ root (many + 1) Ht11.out (fun j hj => (hfr1 j hj).2) (by omega) _).mono ?_
  rintro e w12 ⟨rfl, ht12, hf12⟩
  have Ht12 := hide ht12; have Hf12 := hide hf12; have Hfr1 := hide hfr1; have Hlen1 := hide hlen1
  clear ht12 hf12 hc11 hfr1 hlen1
  go_wp2_with fail
  go_ret
  unfold PutTo
  rw [HX.out]
  have hS : layS ⟨N.length, fr⟩ = ⟨(layN N fr (NodeM.mk p v true 0 0)).length, (layS ⟨N.length, fr⟩).free⟩ := by rw [Hlen1.out]
  have hnd := Ha.out.nodup
  rw [List.nodup_append] at hnd
  have hnf : ∀ j ∈ (T.node i q qv th l r).ids, j ∉ fr := fun j hj h => hnd.2.2 j hj j h rfl
  have hi1 := Hi1.out
  have hi1N : i1 < (layN N fr (NodeM.mk p v true 0 0)).length := by rw [← hi1]; exact (List.getElem?_eq_some_iff.1 (layN_at (NodeM.mk p v true 0 0) (fun i hi => (Ha.out.bd i hi).2))).1
  have hi1f : i1 ∉ (layS ⟨N.length, fr⟩).free := by rw [← hi1]; exact lay_free_nodup hnd.2.1 (fun i hi => (Ha.out.bd i hi).2)
  have hoth : ∀ (n : NodeM) j, j < N.length → j ∉ fr → (layN (layN N fr (NodeM.mk p v true 0 0)) (layS ⟨N.length, fr⟩).free n)[j]? = N[j]? := fun n j hj hf => by
    rw [layN_other n (by have := Hlen1.out; omega) (fun h => hf (lay_free_sub j h)), layN_other _ hj hf]
  have hsz : Fr F w w12 := by
    refine Fr.trans (Fr.trans (Hf8.out.tr Hf10.out) Hf11.out (U := F) (fun _ _ h => h) (fun b hb e => ?_)) Hf12.out (fun _ _ h => h) (fun b hb e => ?_)
    · unfold oneB at e; have := Hf8.out.size; omega
    · rcases e with e | e
      · exact e
      · have h1 : w8.drew.heap.size = w8.heap.size := rfl
        have := Hf8.out.size
        omega
  have ht12' := Ht12.out
  rw [← hS] at ht12'
  refine ⟨layN (layN N fr (NodeM.mk p v true 0 0)) (layS ⟨N.length, fr⟩).free (NodeM.mk cp 0 false i1 i), ?_, ht12'.later' (fun b hb => ?_) H.out.lt hsz.size, ?_, ?_, fun j hj _ hf => hoth _ j hj hf, hsz⟩
  · rw [← hS]; rfl
  · have h1 : w8.drew.heap.size = w8.heap.size := rfl
    have := Hf8.out.size; have := Hf11.out.size; have := Hf12.out.size; have := Hf10.out.size
    rcases hb with (hb | hb) | hb
    · exact .inl hb
    · exact .inr (by omega)
    · exact .inr (by omega)
  · rw [layN_length, ← hS]
  · have hsub : RepT (layN (layN N fr (NodeM.mk p v true 0 0)) (layS ⟨N.length, fr⟩).free (NodeM.mk cp 0 false i1 i)) (.node i q qv th l r) := Hr.out.keep (fun j hj => hoth _ j (Hr.out.lt j hj).2 (hnf j hj))
    have hleaf : RepT (layN (layN N fr (NodeM.mk p v true 0 0)) (layS ⟨N.length, fr⟩).free (NodeM.mk cp 0 false i1 i)) (.node i1 p v true .nil .nil) := by
      refine ⟨?_, ?_, trivial, trivial⟩
      · rw [← hi1]; exact lay_pos (by omega) (fun i hi => (Ha.out.bd i hi).1)
      · rw [layN_other _ hi1N hi1f, ← hi1]; exact layN_at _ (fun i hi => (Ha.out.bd i hi).2)
    have hat := layN_at (N := layN N fr (NodeM.mk p v true 0 0)) (fr := (layS ⟨N.length, fr⟩).free) (NodeM.mk cp 0 false i1 i) (fun j hj => (Hfr1.out j hj).2)
    rw [← hS] at hat
    refine ⟨?_, hat, hleaf, hsub⟩
    rw [hS]; exact lay_pos (by omega) (fun j hj => (Hfr1.out j hj).1)
end Go.Proofs.Ytgjabgneapdbiaa
