/- trie.lay. -/
import Derived.Test.YtgjabgneapdbiaaTrieB
namespace Go.Proofs.Ytgjabgneapdbiaa
open Go.RowKit Go.BigFrame
set_option linter.unusedSimpArgs false
set_option linter.unusedVariables false
attribute [local irreducible] wpMix wpAnyG

def LayTo (w : World) (F : Nat → Prop) (g : Nat) (N : List NodeM) (fr : List Nat) (root many : Nat) (n : NodeM) (e : Ending) (w' : World) : Prop :=
  e = .returned (.int .i64 (layA ⟨N.length, fr⟩ : Nat)) ∧ TrieAt w' (gr F w w') g (layN N fr n) (layS ⟨N.length, fr⟩).free root many ∧ Fr F w w'

theorem trie_upd {w w' : World} {F : Nat → Prop} {g root many root' many' : Nat} {N N' : List NodeM} {fr fr' : List Nat} {sn sf : SlV} (h : TrieAt w F g N fr root many)
    (hb : Blk w' g #[.slice sn.a sn.len sn.cap, .slice sf.a sf.len sf.cap, .int .i64 (root' : Nat), .int .i64 (many' : Nat)] 80) (hn : OwnN w' sn N') (hf : OwnI w' sf fr') (hF : Fr F w w')
    (h1 : ∀ b, ownB sn b → F b ∨ w.heap.size ≤ b) (h2 : ∀ b, ownB sf b → F b ∨ w.heap.size ≤ b) (hl : N'.length ≤ 1000000) (hl2 : fr'.length ≤ 1000000) (hbl : root' ≤ 1000000 ∧ many' ≤ 1000000) : TrieAt w' (gr F w w') g N' fr' root' many' := by
  refine ⟨⟨sn, sf, hb, hn, hf, fun b hb => ?_, fun b hb => ?_⟩, .inl h.here, fun b hb => ?_, hl, hl2, hbl⟩
  · rcases h1 b hb with h3 | h3
    · exact .inl h3
    · exact .inr ⟨h3, hn.lt b hb⟩
  · rcases h2 b hb with h3 | h3
    · exact .inl h3
    · exact .inr ⟨h3, hf.lt b hb⟩
  · rcases hb with h3 | h3
    · exact hF.lt (h.lt b h3)
    · exact h3.2

set_option maxRecDepth 100000 in
set_option maxHeartbeats 2000000 in
theorem trie_lay (w : World) (F : Nat → Prop) (g : Nat) (N : List NodeM) (fr : List Nat) (root many : Nat) (h : TrieAt w F g N fr root many) (hfr : ∀ i ∈ fr, i < N.length) (hN : N.length + 1 ≤ 1000000) (n : NodeM) :
    Calls Try.prog 74 #[.pointer (some ⟨g, 0, none⟩), .agg n.cells.toArray] w (LayTo w F g N fr root many n) := by
  have H := hide h
  have hgl := h.lt g h.here
  have hflen := h.flen
  clear h
  go_enter Try.func74, Try.ntmps74
  go_upto_region 1 with (fail)
  refine wp_gen (fun W => CellsAt W w.heap.size 0 n.cells ∧ Fr noB w W ∧ W.heap.size = w.heap.size + 1) ⟨by (repeat (first | assumption | exact cells_new _ _ _ (by simp) | refine CellsAt.alloc ?_ _ | refine CellsAt.drew ?_ | refine CellsAt.drewN ?_ _)), (Fr.refl _ _).alloc _, by simp⟩ ?_
  rintro w1 ⟨hc, hf, hw1⟩
  have Hc := hide hc; have Hf := hide hf
  obtain ⟨⟨⟨na, nl, nc⟩, ⟨fa, fl, fc⟩, hblk, hown, howf, hFn, hFf⟩, _⟩ := H.out.frN hf
  have hnl : nl = N.length := hown.1
  have hfl : fl = fr.length := howf.1
  have hgw1 : g < w1.heap.size := by omega
  have c0 : w1.cell? ⟨g, 0, none⟩ = some (.slice na nl nc) := hblk.cell 0
  have c1 : w1.cell? ⟨g, 1, none⟩ = some (.slice fa fl fc) := hblk.cell 1
  have z1 : w1.frozen? ⟨g, 1, none⟩ = false := hblk.free 1
  have Hblk := hide hblk; have Hown := hide hown; have Howf := hide howf; have HFn := hide hFn; have HFf := hide hFf; have Hnl := hide hnl; have Hfl := hide hfl
  have Hfl' : fl ≤ 1000000 := by omega
  clear hblk hown howf hFn hFf hf hc
  cases hlast : fr.getLast? with
  | some i =>
    obtain ⟨ys, hys⟩ := List.getLast?_eq_some_iff.1 hlast
    subst hys
    have HA := hide (show layA ⟨N.length, ys ++ [i]⟩ = i from by unfold layA; simp)
    have HS := hide (show (layS ⟨N.length, ys ++ [i]⟩).free = ys from by unfold layS; simp)
    have HL := hide (show layN N (ys ++ [i]) n = N.set i n from by unfold layN; simp)
    have hiN := hfr i (by simp)
    have hk : fl = ys.length + 1 := by simpa using hfl
    have hx : (ys ++ [i])[ys.length]? = some i := by simp
    obtain ⟨gf, rfl, _, hci, _⟩ := own_at Howf.out icells_length hx
    have hci0 : w1.cell? ⟨gf, ys.length, none⟩ = some (.int .i64 (i : Nat)) := by have := hci 0 _ rfl; simpa using this
    have hyl : (ys ++ [i]).length = ys.length + 1 := by simp
    generalize hm : ys.length = m at *
    have Hm := hide hm
    subst hk
    have hmc : m ≤ fc := by
      rcases Howf.out.2 with h | ⟨_, _, _, _, _, h, _⟩
      · simp at h
      · simp only at h; omega
    clear hlast hx hci hfl hnl hfr hyl hm
    go_upto_region 5 with (fail)
    refine wp_gen (fun W => Blk W g #[.slice na nl nc, .slice (some ⟨gf, 0, none⟩) m fc, .int .i64 (root : Nat), .int .i64 (many : Nat)] 80 ∧ Fr (oneB g) w1 W ∧ W.heap.size = w1.heap.size) ⟨Hblk.out.set 1 _, (Fr.refl (oneB g) _).setCell (p := ⟨g, 1, none⟩) (.inr rfl) _, by simp⟩ ?_
    rintro w2 ⟨hblk2, hf2, hw2⟩
    have Hblk2 := hide hblk2; have Hf2 := hide hf2
    obtain ⟨gn, rfl, hin, _, _⟩ := own_at Hown.out NodeM.length (List.getElem?_eq_getElem hiN)
    have hin : i < nl := hin
    have Hown2 := hide (show OwnN w2 ⟨some ⟨gn, 0, none⟩, nl, nc⟩ N from Hown.out.fr hf2 (fun b hb e => by unfold oneB at e; subst e; exact own_ne_blk Hblk.out Hown.out (by decide) hb))
    have hmul : ((i : Int) * 6).toNat = i * 6 := by omega
    have hg2 : ∀ z : Grow w2, z.v.cell? ⟨g, 0, none⟩ = some (.slice (some ⟨gn, 0, none⟩) nl nc) := fun z => (hblk2.fr z.fr (fun h => h)).cell 0
    have hc2 : CellsAt w2 w.heap.size 0 n.cells := Hc.out.fr hf2 (fun e => by unfold oneB at e; omega)
    clear c0 c1 z1 hci0 hblk2 hf2
    refine wp_region_mixT 7 (fun W => ∃ z : Grow w2, W = z.v) (by kernel_rfl) (by kernel_rfl) (inGrow (Fr.refl _ _).drew) ?_
    simp only [List.take_succ_cons, List.take_zero, List.drop_succ_cons, List.drop_zero]
    iterate 5 (first | (refine wpMix_skip rfl ?_; simp only [Act.put, List.setIfInBounds_toArray, List.set_cons_succ, List.set_cons_zero]) | (refine wpMix_calm rfl rfl (fun K hK => ?_); go_big_quiet_op; refine hK _ ?_; clear hK K))
    (refine wpMix_load_atw rfl 87 (.tmp 3) rfl _ _ rfl (NodeM.cells _) (fun W hW => by obtain ⟨z, rfl⟩ := hW; exact CellsAt.fr (by (repeat (first | assumption | exact cells_new _ _ _ (by simp) | refine CellsAt.alloc ?_ _ | refine CellsAt.drew ?_ | refine CellsAt.drewN ?_ _))) z.fr (fun h => h)) _ Try.underlying87 rfl (by kernel_rfl) ?_; simp only [Act.put, List.setIfInBounds_toArray, List.set_cons_succ, List.set_cons_zero])
    repeat (first | (refine wpMix_skip rfl ?_; simp only [Act.put, List.setIfInBounds_toArray, List.set_cons_succ, List.set_cons_zero]) | (refine wpMix_calm rfl rfl (fun K hK => ?_); go_big_quiet_op; refine hK _ ?_; clear hK K))
    refine wpMix_nil ?_
    have hownd : OwnN w2.drew ⟨some ⟨gn, 0, none⟩, nl, nc⟩ N := Hown2.out
    refine wpList_store_elem rfl 87 (.tmp 37) (.tmp 36) rfl hownd NodeM.length rfl i hiN n (by go_simp) rfl (by kernel_rfl) (NodeM.mem n) ?_
    intro w4 hown4 hf4 hsz4
    simp only [Act.put, List.setIfInBounds_toArray, List.set_cons_succ, List.set_cons_zero]
    have Hown4 := hide hown4
    have Hf4 := hide (show Fr (oneB gn) w2 w4 from ((Fr.refl (oneB gn) w2).drew).tr hf4)
    clear hownd hown4 hf4 hsz4 hc2 hg2
    go_wp2_with fail
    go_ret
    unfold LayTo
    rw [HA.out, HS.out, HL.out]
    have hFgn : F gn := HFn.out gn ⟨_, rfl, rfl⟩
    have hne : gn ≠ g := fun e => by subst e; exact own_ne_blk Hblk2.out Hown2.out (by decide) ⟨_, rfl, rfl⟩
    have hFR : Fr F w w4 := Fr.trans (Fr.trans Hf.out Hf2.out (U := F) (fun _ _ h => h.elim) (fun b _ e => by unfold oneB at e; subst e; exact H.out.here)) Hf4.out (fun _ _ h => h) (fun b _ e => by unfold oneB at e; subst e; exact hFgn)
    have howf2 : OwnI w2 ⟨some ⟨gf, 0, none⟩, m, fc⟩ ys := by
      have h1 := own_shrink (k := m) Howf.out (Nat.le_succ m)
      rw [← Hm.out, List.take_left'  rfl, Hm.out] at h1
      exact h1.fr Hf2.out (fun b hb e => by unfold oneB at e; subst e; exact own_ne_blk Hblk.out h1 (by decide) hb)
    refine ⟨rfl, trie_upd H.out (sn := ⟨some ⟨gn, 0, none⟩, nl, nc⟩) (sf := ⟨some ⟨gf, 0, none⟩, m, fc⟩) (Hblk2.out.fr Hf4.out (fun e => hne e.symm)) Hown4.out (howf2.fr Hf4.out (fun b hb e => by unfold oneB at e; subst e; exact own_ne_own howf2 Hown2.out (by decide) b hb ⟨_, rfl, rfl⟩)) hFR
      (fun b hb => .inl (HFn.out b hb)) (fun b hb => .inl (HFf.out b (by obtain ⟨a, ha, e⟩ := hb; exact ⟨a, ha, e⟩))) (by rw [List.length_set]; exact H.out.len) (by have := H.out.flen; simp only [List.length_append] at this; omega) H.out.blen, hFR⟩
  | none =>
    have hfn : fr = [] := by simpa using hlast
    subst hfn
    have HA := hide (show layA ⟨N.length, []⟩ = N.length from by unfold layA; simp)
    have HS := hide (show (layS ⟨N.length, []⟩).free = [] from by unfold layS; simp)
    have HL := hide (show layN N [] n = N ++ [n] from by unfold layN; simp)
    have hk : fl = 0 := by simpa using hfl
    subst hk
    have hnlm : nl ≤ 1000000 := by omega
    clear hlast hfl hnl hfr
    go_upto_region 7 with (fail)
    have hg1 : ∀ z : GrowS (ownB ⟨na, nl, nc⟩) w1, z.v.cell? ⟨g, 0, none⟩ = some (.slice na nl nc) := fun z => (Hblk.out.fr z.fr (own_ne_blk Hblk.out Hown.out (by decide))).cell 0
    have hownlt : ∀ b, ownB ⟨na, nl, nc⟩ b → b < w.heap.size := fun b hb => H.out.lt b (HFn.out b hb)
    have Hlt := hide hownlt
    clear c0 c1 z1 hownlt
    refine wp_region_mixT 10 (fun W => ∃ z : GrowS (ownB ⟨na, nl, nc⟩) w1, W = z.v) (by kernel_rfl) (by kernel_rfl) (inGrowS (Fr.refl _ _).drew) ?_
    simp only [List.take_succ_cons, List.take_zero, List.drop_succ_cons, List.drop_zero]
    iterate 5 (first | (refine wpMix_skip rfl ?_; simp only [Act.put, List.setIfInBounds_toArray, List.set_cons_succ, List.set_cons_zero]) | (refine wpMix_calm rfl rfl (fun K hK => ?_); go_big_quiet_op; refine hK _ ?_; clear hK K))
    refine wpMix_load_atw rfl 87 (.tmp 3) rfl _ _ rfl n.cells (fun W hW => by obtain ⟨z, rfl⟩ := hW; exact Hc.out.fr z.fr (fun hb => by have := Hlt.out _ hb; omega)) _ Try.underlying87 rfl (by kernel_rfl) ?_
    simp only [Act.put, List.setIfInBounds_toArray, List.set_cons_succ, List.set_cons_zero]
    refine wpMix_buildSlice rfl 78 1 _ rfl #[(0, .agg n.cells.toArray)] (by kernel_rfl) Try.underlying78 (.agg zeroN.cells.toArray) 6 (by kernel_rfl) n.cells.toArray (by decide) (by decide) (by kernel_rfl) (inGrowS ((Fr.refl _ _).drew.alloc _)) ?_
    simp only [Act.put, List.setIfInBounds_toArray, List.set_cons_succ, List.set_cons_zero]
    have hone := slof_one (w := w1.drew) (ok := fun _ : NodeM => True) (x := n) NodeM.length 87 trivial
    have hown5 : OwnN (w1.drew.alloc (.cells n.cells.toArray 87)) ⟨na, nl, nc⟩ N := Hown.out.fr ((Fr.refl noB _).drew.alloc _) (fun _ _ h => h)
    refine wpMix_append_rows (N := 6) (cells := NodeM.cells) (s := ⟨na, nl, nc⟩) (xs := N) (q := ⟨some ⟨w1.drew.heap.size, 0, none⟩, 1, 1⟩) (ys := [n]) (ok := fun _ => True) rfl (.tmp 43) (.tmp 45) 78 rfl Try.underlying78 _ 48 node_info (by kernel_rfl) (by decide) NodeM.length NodeM.mem
      rfl hown5 rfl hone (fun h => by simp at h) (by simp [maxLen]; omega) (by simp; omega) ?_
    intro s2 w5 hown6 hf5 hor
    have hf45 : Fr (ownB ⟨na, nl, nc⟩) w1 w5 := (((Fr.refl _ _).drew).alloc _).tr hf5
    refine ⟨inGrowS hf45, ?_⟩
    have Hbl5 := hide (Hblk.out.fr hf45 (own_ne_blk Hblk.out Hown.out (by decide)))
    have hs2 : ∀ b, ownB s2 b → ownB ⟨na, nl, nc⟩ b ∨ w1.heap.size ≤ b := by
      rintro b ⟨x, hx, rfl⟩
      rcases hor with ⟨e1, _⟩ | ⟨g', e1, hg, _⟩
      · exact .inl ⟨x, by rw [← e1]; exact hx, rfl⟩
      · rw [e1] at hx
        simp only [Option.some.injEq] at hx
        subst hx
        simp at hg
        exact .inr (by simp only; omega)
    have Hf45 := hide hf45; have Hown6 := hide hown6; have Hs2 := hide hs2
    have hs25 : Hid (w1.heap.size ≤ w5.heap.size) := hide hf45.size
    have howf5 : OwnI w5 ⟨fa, 0, fc⟩ [] := Howf.out.fr hf45 (fun b hb e => own_ne_own Howf.out Hown.out (by decide) b hb e)
    have Howf5 := hide howf5
    obtain ⟨s2a, s2l, s2c⟩ := s2
    have hs2l : s2l = N.length + 1 := by have := hown6.1; simpa using this
    have c5 : w5.cell? ⟨g, 0, none⟩ = some (.slice na nl nc) := Hbl5.out.cell 0
    have z5 : w5.frozen? ⟨g, 0, none⟩ = false := Hbl5.out.free 0
    have hg5 : g < w5.heap.size := by have := hf45.size; omega
    have hs2m : s2l ≤ 1000000 := by omega
    have Hs2l := hide hs2l
    clear hf45 hown6 hs2 hor hf5 hone hown5 hg1 howf5 hs2l
    simp only [Act.put, List.setIfInBounds_toArray, List.set_cons_succ, List.set_cons_zero]
    repeat (first | (refine wpMix_skip rfl ?_; simp only [Act.put, List.setIfInBounds_toArray, List.set_cons_succ, List.set_cons_zero]) | (refine wpMix_calm rfl rfl (fun K hK => ?_); go_big_quiet_op; refine hK _ ?_; clear hK K))
    refine wpMix_nil ?_
    go_wp2_with fail
    go_ret
    unfold LayTo
    rw [HA.out, HS.out, HL.out]
    have hset := Hbl5.out.set 0 (.slice s2a s2l s2c)
    have hfs : Fr (oneB g) w5 (w5.setCell ⟨g, 0, none⟩ (.slice s2a s2l s2c)) := (Fr.refl (oneB g) _).setCell (p := ⟨g, 0, none⟩) (.inr rfl) _
    have hFR : Fr F w (w5.setCell ⟨g, 0, none⟩ (.slice s2a s2l s2c)) := by
      refine Fr.trans (Fr.trans Hf.out Hf45.out (U := F) (fun _ _ h => h.elim) (fun b _ hb => HFn.out b hb)) hfs (fun _ _ h => h) (fun b _ hb => ?_)
      unfold oneB at hb; subst hb; exact H.out.here
    refine ⟨ret_int (by have := Hs2l.out; omega), trie_upd H.out (sn := ⟨s2a, s2l, s2c⟩) (sf := ⟨fa, 0, fc⟩) hset (Hown6.out.fr hfs (fun b hb e => by unfold oneB at e; subst e; exact own_ne_blk Hbl5.out Hown6.out (by decide) hb)) (Howf5.out.fr hfs (fun b hb e => by unfold oneB at e; subst e; exact own_ne_blk Hbl5.out Howf5.out (by decide) hb)) hFR
      (fun b hb => ?_) (fun b hb => .inl (HFf.out b hb)) (by simpa using hN) (Nat.zero_le _) H.out.blen, hFR⟩
    rcases Hs2.out b hb with h | h
    · exact .inl (HFn.out b h)
    · exact .inr (by omega)
end Go.Proofs.Ytgjabgneapdbiaa
