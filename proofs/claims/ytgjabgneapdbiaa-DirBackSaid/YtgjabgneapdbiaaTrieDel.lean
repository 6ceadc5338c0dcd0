/- trie.cut as a whole; Del; what may not be; New, Len, Nodes; a nil Trie. -/
import Derived.Test.YtgjabgneapdbiaaTrieCutE
import Derived.Test.YtgjabgneapdbiaaTrieCutL
import Derived.Test.YtgjabgneapdbiaaTrieCutR
namespace Go.Proofs.Ytgjabgneapdbiaa
open Go.RowKit Go.BigFrame
set_option linter.unusedSimpArgs false
set_option linter.unusedVariables false
attribute [local irreducible] wpMix wpAnyG

theorem trie_cut (g : Nat) (p : PrefixM) (hp : okP p) : ∀ (t : T) (w : World) (F : Nat → Prop) (N : List NodeM) (fr : List Nat) (root many : Nat), TrieAt w F g N fr root many → RepT N t → Good t → AlOk N fr t.ids → fr.length + t.ids.length + 1 ≤ 1000000 →
    Calls Try.prog 59 #[.pointer (some ⟨g, 0, none⟩), .int .i64 (t.id : Nat), .agg p.cells.toArray] w (CutTo w F g N fr root many (cutT t p ⟨N.length, fr⟩) t.ids) := by
  intro t
  induction t with
  | nil => intro w F N fr root many h hr hg ha hl; exact cut_nil w F g N fr root many h p
  | node i q qv th l r ihl ihr =>
    intro w F N fr root many h hr hg ha hl
    simp only [T.ids, List.length_cons, List.length_append] at hl
    cases hc : covB q p with
    | false => exact cut_not w F g N fr root many h i q qv th l r hr hg.1 p hp hc
    | true =>
      by_cases hqp : q = p
      · exact cut_eq w F g N fr root many h i q qv th l r hr hg ha (by omega) p hp hc hqp
      · have hlt : q.len < 32 := by
          have := cov_len hg.1 hp ((covB_iff hg.1 hp).1 hc) hqp
          have := hp.bd
          omega
        rcases halfB_lt p.addr (heldN q.len) with hk | hk
        · exact cut_down0 w F g N fr root many h i q qv th l r hr hg ha (by omega) p hp hc hqp hlt hk (by omega) ihl
        · exact cut_down1 w F g N fr root many h i q qv th l r hr hg ha (by omega) p hp hc hqp hlt hk (by omega) ihr

theorem cut_ok {N : List NodeM} {fr : List Nat} {t : T} {p : PrefixM} (ha : AlOk N fr t.ids) (hr : RepT N t) {N' : List NodeM} (hl : N'.length = N.length) (hs : N.length = t.ids.length + fr.length + 1) :
    AlOk N' (cutT t p ⟨N.length, fr⟩).s.free (cutT t p ⟨N.length, fr⟩).t.ids ∧ N'.length = (cutT t p ⟨N.length, fr⟩).t.ids.length + (cutT t p ⟨N.length, fr⟩).s.free.length + 1 := by
  have hp := (cut_perm p t ⟨N.length, fr⟩).2
  simp only at hp
  generalize cutT t p ⟨N.length, fr⟩ = X at *
  refine ⟨⟨hp.symm.nodup ha.nodup, fun i hi => ?_⟩, ?_⟩
  · rw [hl]
    rcases List.mem_append.1 (hp.subset (List.mem_append_right _ hi)) with h2 | h2
    · exact hr.lt i h2
    · exact ha.bd i h2
  · have := hp.length_eq
    simp only [List.length_append] at this
    omega

theorem del_mono {w w2 w3 w9 : World} {F : Nat → Prop} {g root many : Nat} {N : List NodeM} {fr : List Nat} (h : TrieAt w9 (gr F w2.drew w3) g N fr root many) (hF : ∀ b, F b → b < w.heap.size) (h02 : w.heap.size ≤ w2.heap.size) (h23 : w2.heap.size ≤ w3.heap.size) (h39 : w3.heap.size ≤ w9.heap.size) :
    TrieAt w9 (gr F w w9) g N fr root many := by
  have h1 : w2.drew.heap.size = w2.heap.size := rfl
  refine h.later' (fun b hb => ?_) hF (by omega)
  rcases hb with hb | hb
  · exact .inl hb
  · exact .inr (by omega)
set_option maxRecDepth 100000 in
set_option maxHeartbeats 2000000 in
theorem trie_del (w : World) (F : Nat → Prop) (g : Nat) (l : List EntM) (m : Nat) (h : Trie w F g l m) (p : PrefixM) (hp : okP p) :
    Calls Try.prog 34 #[.pointer (some ⟨g, 0, none⟩), .agg p.cells.toArray] w (TrieTo w F g (delE l p) m (.bool (hasE l p))) := by
  obtain ⟨t, N, fr, hR, rfl⟩ := h
  have HR := hide hR
  have hgl := hR.at_.lt g hR.at_.here
  clear hR
  go_enter Try.func34, Try.ntmps34
  go_upto_region 1 with (fail)
  refine wp_gen (fun W => CellsAt W w.heap.size 0 p.cells ∧ Fr noB w W ∧ w.heap.size < W.heap.size) ⟨by (repeat (first | assumption | exact cells_new _ _ _ (by simp) | refine CellsAt.alloc ?_ _ | refine CellsAt.drew ?_ | refine CellsAt.drewN ?_ _)), (Fr.refl _ _).alloc _, by simp⟩ ?_
  rintro w1 ⟨hc, hf, hw1⟩
  have Hc := hide hc; have Hf := hide hf; have Hp := hide hp
  clear hf hp
  go_wp2_with (refine wpList_load_atw rfl 28 _ rfl _ _ rfl (PrefixM.cells _) (by (repeat (first | assumption | exact cells_new _ _ _ (by simp) | refine CellsAt.alloc ?_ _ | refine CellsAt.drew ?_ | refine CellsAt.drewN ?_ _))) _ Try.underlying28 rfl (by kernel_rfl) ?_)
  refine (addr_Is p Hp.out.2 _).mono ?_
  rintro e w2 ⟨rfl, hf2⟩
  rw [decide_eq_true Hp.out.1]
  have Hf2 := hide (Hf.out.tr hf2); have Hc2 := hide (Hc.out.fr hf2 (fun h => h))
  clear hf2 hc hw1
  go_upto_region 3 with (fail)
  have H2 := hide (HR.out.at_.frN Hf2.out)
  have hw2 : w.heap.size < w2.heap.size := block_of_cell (Hc2.out 0 _ rfl)
  have hr2 : ∀ z : Grow w2, z.v.cell? ⟨g, 2, none⟩ = some (.int .i64 (t.id : Nat)) := fun z => Grow.cell H2.out.root_cell.1 z
  refine wp_region_mix2 6 (fun W => ∃ z : Grow w2, W = z.v) (by kernel_rfl) (by kernel_rfl) (inGrow (Fr.refl _ _).drew) ?_
  simp only [List.take_succ_cons, List.take_zero, List.drop_succ_cons, List.drop_zero]
  iterate 5 (first | (refine wpMix_skip rfl ?_; simp only [Act.put, List.setIfInBounds_toArray, List.set_cons_succ, List.set_cons_zero]) | (refine wpMix_calm rfl rfl (fun K hK => ?_); go_big_quiet_op; refine hK _ ?_; clear hK K))
  refine wpMix_load_atw rfl 28 (.tmp 3) rfl w.heap.size 0 rfl p.cells (fun W hW => by obtain ⟨z, rfl⟩ := hW; exact Hc2.out.fr z.fr (fun h => h)) _ Try.underlying28 rfl (by kernel_rfl) ?_
  simp only [Act.put, List.setIfInBounds_toArray, List.set_cons_succ, List.set_cons_zero]
  repeat (first | (refine wpMix_skip rfl ?_; simp only [Act.put, List.setIfInBounds_toArray, List.set_cons_succ, List.set_cons_zero]) | (refine wpMix_calm rfl rfl (fun K hK => ?_); go_big_quiet_op; refine hK _ ?_; clear hK K))
  refine wpMix_nil ?_
  refine wpList_plain rfl (fun K hK => ?_)
  go_wp2_with fail
  refine (trie_cut g p Hp.out t w2.drew F N fr t.id t.ents.length (H2.out.frN (Fr.refl noB _).drew) HR.out.rep HR.out.good HR.out.al (by have := HR.out.size; have := HR.out.at_.len; omega)).mono ?_
  rintro e w3 ⟨N', rfl, ht3, hlen, hrep, _, hf3'⟩
  have hf3 : Fr F w2 w3 := (Fr.refl F w2).drew.tr hf3'
  have Hrep := hide hrep; have Hlen := hide hlen; have Ht3 := hide ht3; have Hf3 := hide hf3
  refine hK _ _ ⟨rfl, (fun W => ∃ z : Grow w3, W = z.v), inGrow (Fr.refl _ _), ?_⟩
  clear hK K hr2 hrep hlen ht3 hf3 hf3'
  obtain ⟨c2, c3, z2', hg3⟩ := Ht3.out.root_cell
  have z2 := z2' 2
  have z3 := z2' 3
  clear z2'
  obtain ⟨k1, k2⟩ := cut_ok (p := p) HR.out.al HR.out.rep Hlen.out HR.out.size
  obtain ⟨g1, _, _, _, g5⟩ := cut_good Hp.out ⟨N.length, fr⟩ HR.out.good
  obtain ⟨e1, e2⟩ := ents_cut HR.out.good Hp.out ⟨N.length, fr⟩
  have hcl := HR.out.at_.blen.2
  generalize cutT t p ⟨N.length, fr⟩ = X at *
  have E2 := hide e2
  have K1 := hide k1; have K2 := hide k2; have G1 := hide g1; have G5 := hide g5; have E1 := hide e1
  clear k1 k2 g1 g5 e1 e2
  repeat (first | (refine wpMix_skip rfl ?_; simp only [Act.put, List.setIfInBounds_toArray, List.set_cons_succ, List.set_cons_zero]) | (refine wpMix_calm rfl rfl (fun K hK => ?_); go_big_quiet_op; refine hK _ ?_; clear hK K))
  refine wpMix_nil ?_
  have hid : X.t.id ≤ 1000000 := by
    cases hX : X.t.isNil with
    | true => rw [nil_of hX]; exact Nat.zero_le _
    | false => have := (Hrep.out.lt _ (id_mem hX)).2; have := Ht3.out.len; omega
  have hset := Ht3.out.set_root (v := .int .i64 (X.t.id : Nat)) rfl hid
  have hs : Fr (oneB g) w3 (w3.setCell ⟨g, 2, none⟩ (.int .i64 (X.t.id : Nat))) := (Fr.refl (oneB g) _).setCell (p := ⟨g, 2, none⟩) (.inr rfl) _
  have h1 : w2.drew.heap.size = w2.heap.size := rfl
  have hX0 : w.heap.size ≤ w2.heap.size := Hf2.out.size
  have HF0 := hide (show Fr F w w3 from Fr.trans Hf2.out Hf3.out (U := F) (fun _ _ h => h.elim) (fun _ _ h => h))
  have hgF : F g := HR.out.at_.here
  have Hs := hide hs; have Hset := hide hset; have HgF := hide hgF
  cases hwas : X.was with
  | false =>
    have hlen2 : X.t.ents.length = t.ents.length := by have := G5.out; rw [hwas] at this; simpa using this
    have Hl2 := hide hlen2
    have Hwas := hide hwas; have H0 := hide hX0
    clear hs hset hlen2 hwas h1 hX0 hid hgF
    go_wp2_with fail
    go_ret
    refine ⟨congrArg (fun b => Ending.returned (Value.bool b)) (Hwas.out.symm.trans E2.out), ⟨X.t, N', X.s.free, ⟨?_, Hrep.out, G1.out, K1.out, K2.out, by rw [Hlen.out]; exact HR.out.bd⟩, E1.out⟩, Fr.trans HF0.out Hs.out (fun _ _ h => h) (fun b _ e => by unfold oneB at e; subst e; exact HgF.out)⟩
    rw [Hl2.out]
    exact del_mono Hset.out HR.out.at_.lt H0.out Hf3.out.size Hs.out.size
  | true =>
    have hlen2 : X.t.ents.length + 1 = t.ents.length := by have := G5.out; rw [hwas] at this; simpa using this
    have Hl2 := hide hlen2
    have hle : t.ents.length ≤ 1000000 := hcl
    have Hwas := hide hwas; have H0 := hide hX0
    clear hs hset hlen2 hwas h1 hX0 hid hgF
    go_wp2_with fail
    go_ret
    have hset2 := Hset.out.set_many (m' := X.t.ents.length) (v := .int .i64 ((t.ents.length : Int) - 1)) (by congr 1; have := Hl2.out; omega) (by have := Hl2.out; omega)
    have hs2 : Fr (oneB g) (w3.setCell ⟨g, 2, none⟩ (.int .i64 (X.t.id : Nat))) ((w3.setCell ⟨g, 2, none⟩ (.int .i64 (X.t.id : Nat))).setCell ⟨g, 3, none⟩ (.int .i64 ((t.ents.length : Int) - 1))) := (Fr.refl (oneB g) _).setCell (p := ⟨g, 3, none⟩) (.inr rfl) _
    refine ⟨congrArg (fun b => Ending.returned (Value.bool b)) (Hwas.out.symm.trans E2.out), ⟨X.t, N', X.s.free, ⟨?_, Hrep.out, G1.out, K1.out, K2.out, by rw [Hlen.out]; exact HR.out.bd⟩, E1.out⟩, Fr.trans (Fr.trans HF0.out Hs.out (U := F) (fun _ _ h => h) (fun b _ e => by unfold oneB at e; subst e; exact HgF.out)) hs2 (fun _ _ h => h) (fun b _ e => by unfold oneB at e; subst e; exact HgF.out)⟩
    exact del_mono hset2 HR.out.at_.lt H0.out Hf3.out.size (Nat.le_trans Hs.out.size hs2.size)

set_option maxHeartbeats 1000000 in
theorem trie_set_bad (w : World) (a : Option Addr) (p : PrefixM) (hp : p.wf) (hn : ¬ p = normP p) (v : Int) : Calls Try.prog 20 #[.pointer a, .agg p.cells.toArray, .int .i64 v] w fun e w' => e = .returned (.int .i64 1) ∧ Fr noB w w' := by
  have hd := hide (decide_eq_false hn)
  clear hn
  cases a with
  | none =>
    go_enter Try.func20, Try.ntmps20
    go_wp2_with fail
    go_ret
    exact ⟨rfl, (Fr.refl _ _).alloc _⟩
  | some a =>
    go_enter Try.func20, Try.ntmps20
    go_upto_region 1 with (fail)
    refine wp_gen (fun W => CellsAt W w.heap.size 0 p.cells ∧ Fr noB w W) ⟨by (repeat (first | assumption | exact cells_new _ _ _ (by simp) | refine CellsAt.alloc ?_ _ | refine CellsAt.drew ?_ | refine CellsAt.drewN ?_ _)), (Fr.refl _ _).alloc _⟩ ?_
    rintro w1 ⟨hc, hf⟩
    have Hf := hide hf
    clear hf
    go_wp2_with (refine wpList_load_atw rfl 28 _ rfl _ _ rfl (PrefixM.cells _) (by (repeat (first | assumption | exact cells_new _ _ _ (by simp) | refine CellsAt.alloc ?_ _ | refine CellsAt.drew ?_ | refine CellsAt.drewN ?_ _))) _ Try.underlying28 rfl (by kernel_rfl) ?_)
    refine (addr_Is p hp _).mono ?_
    rintro e w2 ⟨rfl, hf2⟩
    rw [hd.out]
    have Hf2 := hide (Hf.out.tr hf2)
    clear hf2 hc
    go_wp2_with fail
    go_ret
    exact ⟨rfl, Hf2.out⟩
set_option maxHeartbeats 1000000 in
theorem trie_set_nil (w : World) (p : PrefixM) (v : Int) : Calls Try.prog 20 #[.pointer none, .agg p.cells.toArray, .int .i64 v] w fun e w' => e = .returned (.int .i64 1) ∧ Fr noB w w' := by
  go_enter Try.func20, Try.ntmps20
  go_wp2_with fail
  go_ret
  exact ⟨rfl, (Fr.refl _ _).alloc _⟩
set_option maxHeartbeats 1000000 in
theorem trie_del_nil (w : World) (p : PrefixM) : Calls Try.prog 34 #[.pointer none, .agg p.cells.toArray] w fun e w' => e = .returned (.bool false) ∧ Fr noB w w' := by
  go_enter Try.func34, Try.ntmps34
  go_wp2_with fail
  go_ret
  exact ⟨rfl, (Fr.refl _ _).alloc _⟩
set_option maxHeartbeats 1000000 in
theorem trie_del_bad (w : World) (a : Addr) (p : PrefixM) (hp : p.wf) (hn : ¬ p = normP p) : Calls Try.prog 34 #[.pointer (some a), .agg p.cells.toArray] w fun e w' => e = .returned (.bool false) ∧ Fr noB w w' := by
  have hd := hide (decide_eq_false hn)
  clear hn
  go_enter Try.func34, Try.ntmps34
  go_upto_region 1 with (fail)
  refine wp_gen (fun W => CellsAt W w.heap.size 0 p.cells ∧ Fr noB w W) ⟨by (repeat (first | assumption | exact cells_new _ _ _ (by simp) | refine CellsAt.alloc ?_ _ | refine CellsAt.drew ?_ | refine CellsAt.drewN ?_ _)), (Fr.refl _ _).alloc _⟩ ?_
  rintro w1 ⟨hc, hf⟩
  have Hf := hide hf
  clear hf
  go_wp2_with (refine wpList_load_atw rfl 28 _ rfl _ _ rfl (PrefixM.cells _) (by (repeat (first | assumption | exact cells_new _ _ _ (by simp) | refine CellsAt.alloc ?_ _ | refine CellsAt.drew ?_ | refine CellsAt.drewN ?_ _))) _ Try.underlying28 rfl (by kernel_rfl) ?_)
  refine (addr_Is p hp _).mono ?_
  rintro e w2 ⟨rfl, hf2⟩
  rw [hd.out]
  have Hf2 := hide (Hf.out.tr hf2)
  clear hf2 hc
  go_wp2_with fail
  go_ret
  exact ⟨rfl, Hf2.out⟩

/-! ### Any prefix -/
structure StepE where
  e : Int
  l : List EntM
def setX (l : List EntM) (p : PrefixM) (v : Int) : StepE := if p = normP p then ⟨0, putE l p v⟩ else ⟨1, l⟩
theorem hasE_bad {l : List EntM} (hl : ∀ x ∈ l, okP x.p) {p : PrefixM} (hn : ¬ p = normP p) : hasE l p = false := by
  unfold hasE
  split
  · rename_i x hx
    apply decide_eq_false
    rintro rfl
    exact hn (hl x (List.mem_of_getElem? hx)).1
  · rfl
theorem delE_bad {l : List EntM} (hl : ∀ x ∈ l, okP x.p) {p : PrefixM} (hn : ¬ p = normP p) : delE l p = l := by unfold delE; rw [hasE_bad hl hn]; simp
theorem trie_setX (w : World) (F : Nat → Prop) (g : Nat) (l : List EntM) (m : Nat) (h : Trie w F g l m) (hm : m + 2 ≤ 1000000) (p : PrefixM) (hp : p.wf) (v : Int) :
    Calls Try.prog 20 #[.pointer (some ⟨g, 0, none⟩), .agg p.cells.toArray, .int .i64 v] w (TrieTo w F g (setX l p v).l (m + 2) (.int .i64 (setX l p v).e)) := by
  unfold setX
  by_cases hn : p = normP p
  · rw [if_pos hn]; exact trie_set w F g l m h hm p ⟨hn, hp⟩ v
  · rw [if_neg hn]
    refine (trie_set_bad w _ p hp hn v).mono ?_
    rintro e w' ⟨rfl, hf⟩
    exact ⟨rfl, ((h.up (Nat.le_add_right m 2)).same hf).1, (h.same hf).2⟩
theorem trie_delX (w : World) (F : Nat → Prop) (g : Nat) (l : List EntM) (m : Nat) (h : Trie w F g l m) (p : PrefixM) (hp : p.wf) :
    Calls Try.prog 34 #[.pointer (some ⟨g, 0, none⟩), .agg p.cells.toArray] w (TrieTo w F g (delE l p) m (.bool (hasE l p))) := by
  by_cases hn : p = normP p
  · exact trie_del w F g l m h p ⟨hn, hp⟩
  · rw [delE_bad h.ok hn, hasE_bad h.ok hn]
    refine (trie_del_bad w _ p hp hn).mono ?_
    rintro e w' ⟨rfl, hf⟩
    exact ⟨rfl, (h.same hf).1, (h.same hf).2⟩
end Go.Proofs.Ytgjabgneapdbiaa
