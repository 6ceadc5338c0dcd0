/- trie.Walk, path. -/
import Derived.Test.YtgjabgneapdbiaaTrieNew
import Derived.Deep.LoopGhost
namespace Go.Proofs.Ytgjabgneapdbiaa
open Go.RowKit Go.BigFrame
set_option linter.unusedSimpArgs false
set_option linter.unusedVariables false
attribute [local irreducible] wpMix wpAnyG

def ListTo (w : World) (xs : List PrefixM) (e : Ending) (w' : World) : Prop := ∃ s' : SlV, e = .returned (.slice s'.a s'.len s'.cap) ∧ NewP w w' s' xs ∧ Fr noB w w'
set_option maxHeartbeats 1000000 in
theorem trie_Walk (w : World) (F : Nat → Prop) (g : Nat) (l : List EntM) (m : Nat) (h : Trie w F g l m) : Calls Try.prog 33 #[.pointer (some ⟨g, 0, none⟩)] w (ListTo w (l.map (·.p))) := by
  obtain ⟨t, N, fr, hR, rfl⟩ := h
  have HR := hide hR
  obtain ⟨c2, _, _, _⟩ := hR.at_.root_cell
  clear hR
  go_enter Try.func33, Try.ntmps33
  go_wp2_with fail
  refine (trie_walk g w F HR.out.at_.lt t w N fr t.id t.ents.length ⟨none, 0, 0⟩ [] HR.out.at_ HR.out.rep (NewL.nil _ _ _ _ _) (Fr.refl _ _) (by have := HR.out.at_.blen; simp [T.ps]; omega)).mono ?_
  rintro e w2 ⟨⟨sa, sl, sc⟩, rfl, hn, hf, _⟩
  have Hn := hide hn; have Hf := hide hf
  clear hn hf c2
  go_wp2_with fail
  go_ret
  exact ⟨⟨sa, sl, sc⟩, rfl, Hn.out, Hf.out⟩
theorem trie_Walk_nil (w : World) : Calls Try.prog 33 #[.pointer none] w (ListTo w []) := by
  go_enter Try.func33, Try.ntmps33
  go_wp2_with fail
  go_ret
  exact ⟨⟨none, 0, 0⟩, rfl, NewL.nil _ _ _ _ _, Fr.refl _ _⟩

/-! ### path -/
def NodeM.ent (n : NodeM) : EntM := ⟨n.p, n.v⟩
abbrev NewN (w0 w : World) (s : SlV) (xs : List NodeM) : Prop := NewL w0 w 87 6 NodeM.cells s xs
def T.count : T → Nat
  | .nil => 0
  | .node _ _ _ _ l r => 1 + l.count + r.count
/-- What holds where the loop stands at a place. -/
def PathAt (w0 : World) (N : List NodeM) (t : T) (p : PrefixM) (k : Nat) (lv av : Value) (wr : World) : Prop :=
  ∃ (t' : T) (acc : List NodeM) (s : SlV), k = t'.count ∧ RepT N t' ∧ Good t' ∧ lv = .slice s.a s.len s.cap ∧ av = .int .i64 (t'.id : Nat) ∧ NewN w0 wr s acc ∧ Fr noB w0 wr ∧ acc.map NodeM.ent ++ pathT t' p = pathT t p
def PathTo (w : World) (es : List EntM) (e : Ending) (w' : World) : Prop := ∃ (s' : SlV) (ns : List NodeM), e = .returned (.slice s'.a s'.len s'.cap) ∧ NewN w w' s' ns ∧ ns.map NodeM.ent = es ∧ Fr noB w w'
theorem path_len {t : T} (hg : Good t) {p : PrefixM} (hp : okP p) : (pathT t p).length ≤ t.ents.length := by rw [path_eq hp hg]; exact List.length_filter_le _ _

set_option maxRecDepth 100000 in
set_option maxHeartbeats 8000000 in
theorem trie_path (w : World) (F : Nat → Prop) (g : Nat) (t : T) (N : List NodeM) (fr : List Nat) (m : Nat) (hR : TrieR w F g t N fr m) (p : PrefixM) (hp : okP p) :
    Calls Try.prog 56 #[.pointer (some ⟨g, 0, none⟩), .agg p.cells.toArray] w (PathTo w (pathT t p)) := by
  have HR := hide hR
  have Hp := hide hp
  have hplen := path_len hR.good hp
  have hbl := hR.at_.blen.2
  clear hR hp
  go_enter Try.func56, Try.ntmps56
  go_upto_region 1 with (fail)
  refine wp_gen (fun W => CellsAt W w.heap.size 0 p.cells ∧ Fr noB w W ∧ w.heap.size < W.heap.size) ⟨by (repeat (first | assumption | exact cells_new _ _ _ (by simp) | refine CellsAt.alloc ?_ _ | refine CellsAt.drew ?_ | refine CellsAt.drewN ?_ _)), (Fr.refl _ _).alloc _, by simp⟩ ?_
  rintro w1 ⟨hc, hf, hw1⟩
  have Hc := hide hc; have Hf := hide hf
  clear hf
  go_wp2_with (refine wpList_load_atw rfl 28 _ rfl _ _ rfl (PrefixM.cells _) (by (repeat (first | assumption | exact cells_new _ _ _ (by simp) | refine CellsAt.alloc ?_ _ | refine CellsAt.drew ?_ | refine CellsAt.drewN ?_ _))) _ Try.underlying28 rfl (by kernel_rfl) ?_)
  refine (addr_Is p Hp.out.2 _).mono ?_
  rintro e w2 ⟨rfl, hf2⟩
  rw [decide_eq_true Hp.out.1]
  have Hf2 := hide (Hf.out.tr hf2); have Hc2 := hide (Hc.out.fr hf2 (fun h => h))
  have H2 := hide (HR.out.at_.frN Hf2.out)
  obtain ⟨c2, _, _, _⟩ := H2.out.root_cell
  clear hf2 hc hw1
  go_wp2_with fail
  go_loopg [5, 6] t.count (fun k lv av wr => PathAt w2 N t p k lv av wr)
  case atStart => exact ⟨t, [], ⟨none, 0, 0⟩, rfl, HR.out.rep, HR.out.good, rfl, rfl, NewL.nil _ _ _ _ _, Fr.refl _ _, rfl⟩
  case round =>
    obtain ⟨t', acc, ⟨sa, sl, sc⟩, hgk, hrep, hgood, rfl, rfl, hnew, hf0, hacc⟩ := hrel
    have Hgk := hide hgk; have Hrep := hide hrep; have Hgood := hide hgood; have Hnew := hide hnew; have Hf0 := hide hf0; have Hacc := hide hacc
    have hw2 : w.heap.size < w2.heap.size := block_of_cell (Hc2.out 0 _ rfl)
    have Hcr := hide (Hc2.out.fr hf0 (fun h => h))
    have hlenacc : acc.length + 1 ≤ 1000001 := by have := congrArg List.length hacc; simp only [List.length_append, List.length_map] at this; omega
    have hsl : sl = acc.length := hnew.1.1
    have hslm : sl ≤ 1000000 := by omega
    clear hgk hrep hgood hnew hf0 hacc c2 hsl
    cases t' with
    | nil =>
      rw [show (T.nil : T).id = 0 from rfl]
      go_upto_region 5 with (fail)
      refine wp_region_mix (fun W => ∃ z : Grow wr, W = z.v) (by kernel_rfl) (by kernel_rfl) (inGrow (Fr.refl _ _).drew) ?_
      repeat (first | (refine wpMix_skip rfl ?_; simp only [Act.put, List.setIfInBounds_toArray, List.set_cons_succ, List.set_cons_zero]) | (refine wpMix_calm rfl rfl (fun K hK => ?_); go_big_quiet_op; refine hK _ ?_; clear hK K))
      refine wpMix_nil ?_
      go_wp2_with fail
      go_ret
      refine ⟨⟨sa, sl, sc⟩, acc, rfl, ⟨Hnew.out.1.fr (Fr.refl noB wr).drew (fun _ _ h => h), fun b hb => Nat.le_trans Hf2.out.size (Hnew.out.2 b hb)⟩, ?_, (Hf2.out.tr Hf0.out).drew⟩
      have := Hacc.out
      simpa [pathT] using this
    | node i q qv th l r =>
      rw [show (T.node i q qv th l r).id = i from rfl]
      have hi0 := Hrep.out.1
      obtain ⟨gn, nl, nc, hn⟩ := (H2.out.frN Hf0.out).node Hrep.out.2.1
      have hin := hn.lt
      have hnlm := hn.nlm
      have hcq : CellsAt wr gn (i * 6) q.cells := node_pfx hn.cells
      have hmul : ((i : Int) * 6).toNat = i * 6 := by omega
      have hz : ((i : Int) != 0) = true := by simp only [bne_iff_ne, ne_eq]; omega
      have hg1 : ∀ z : Grow wr, z.v.cell? ⟨g, 0, none⟩ = some (.slice (some ⟨gn, 0, none⟩) nl nc) := fun z => Grow.cell hn.head z
      clear hn
      go_upto_region 5 with (fail)
      refine wp_region_mix (fun W => ∃ z : Grow wr, W = z.v) (by kernel_rfl) (by kernel_rfl) (inGrow (Fr.refl _ _).drew) ?_
      iterate 10 (first | (refine wpMix_skip rfl ?_; simp only [Act.put, List.setIfInBounds_toArray, List.set_cons_succ, List.set_cons_zero]) | (refine wpMix_calm rfl rfl (fun K hK => ?_); go_big_quiet_op; refine hK _ ?_; clear hK K))
      refine wpMix_load_atw rfl 28 (.tmp 28) rfl gn (i * 6) rfl q.cells (fun W hW => by obtain ⟨z, rfl⟩ := hW; exact hcq.fr z.fr (fun h => h)) _ Try.underlying28 rfl (by kernel_rfl) ?_
      simp only [Act.put, List.setIfInBounds_toArray, List.set_cons_succ, List.set_cons_zero]
      refine wpMix_load_atw rfl 28 (.tmp 3) rfl w.heap.size 0 rfl p.cells (fun W hW => by obtain ⟨z, rfl⟩ := hW; exact Hcr.out.fr z.fr (fun h => h)) _ Try.underlying28 rfl (by kernel_rfl) ?_
      simp only [Act.put, List.setIfInBounds_toArray, List.set_cons_succ, List.set_cons_zero]
      refine wpMix_spine rfl rfl (fun K hK => ?_); go_wp2_with fail
      refine (addr_Covers q p Hgood.out.1.2 Hp.out.2 _).mono ?_
      rintro e w3 ⟨rfl, hf3'⟩
      have hf3 := (Fr.refl noB wr).drew.tr hf3'
      have Hf3 := hide hf3
      refine hK _ _ rfl (inGrow hf3) ?_
      clear hK K hf3 hf3' hg1 hcq hin hnlm
      cases hcov : covB q p with
      | false =>
        have Hcv := hide hcov
        clear hcov
        repeat (first | (refine wpMix_skip rfl ?_; simp only [Act.put, List.setIfInBounds_toArray, List.set_cons_succ, List.set_cons_zero]) | (refine wpMix_calm rfl rfl (fun K hK => ?_); go_big_quiet_op; refine hK _ ?_; clear hK K))
        refine wpMix_nil ?_
        go_wp2_with fail
        go_ret
        refine ⟨⟨sa, sl, sc⟩, acc, rfl, ⟨Hnew.out.1.fr Hf3.out (fun _ _ h => h), fun b hb => Nat.le_trans Hf2.out.size (Hnew.out.2 b hb)⟩, ?_, Hf2.out.tr (Hf0.out.tr Hf3.out)⟩
        have := Hacc.out
        rw [pathT, Hcv.out] at this
        simpa using this
      | true =>
        have Hcv := hide hcov
        clear hcov
        repeat (first | (refine wpMix_skip rfl ?_; simp only [Act.put, List.setIfInBounds_toArray, List.set_cons_succ, List.set_cons_zero]) | (refine wpMix_calm rfl rfl (fun K hK => ?_); go_big_quiet_op; refine hK _ ?_; clear hK K))
        refine wpMix_nil ?_
        obtain ⟨gn, nl, nc, hn⟩ := (H2.out.frN (Hf0.out.tr Hf3.out)).node Hrep.out.2.1
        have hin := hn.lt
        have hnlm := hn.nlm
        have hcn := hn.cells
        have c0 := hn.head
        clear hn
        go_upto_region 7 with (first | (refine wpList_load_at rfl 87 _ rfl _ _ rfl (NodeM.cells _) (by (repeat (first | assumption | exact cells_new _ _ _ (by simp) | refine CellsAt.alloc ?_ _ | refine CellsAt.drew ?_ | refine CellsAt.drewN ?_ _))) _ Try.underlying87 rfl (by kernel_rfl) ?_) | (refine wpList_store_new rfl 87 _ _ rfl _ _ (NodeM.mk q qv th l.id r.id).cells _ rfl rfl (by simp) (by kernel_rfl) rfl (by kernel_rfl) ?_))
        refine wp_gen (fun W => CellsAt W w3.heap.size 0 (NodeM.mk q qv th l.id r.id).cells ∧ Fr noB w3 W ∧ w3.heap.size < W.heap.size) ⟨cells_new _ _ _ rfl, (Fr.refl _ _).alloc _, by simp⟩ ?_
        rintro w4 ⟨hl4, hf4, hw4⟩
        have Hl4 := hide hl4; have Hf4 := hide (Hf0.out.tr (Hf3.out.tr hf4))
        have Hc4 := hide (Hcr.out.fr (Hf3.out.tr hf4) (fun h => h))
        have Hn4 : Hid (NewN w2 w4 ⟨sa, sl, sc⟩ acc) := hide (Hnew.out.fr (Hf3.out.tr hf4))
        have hs3 : wr.heap.size ≤ w3.heap.size := Hf3.out.size
        have d3 := (node_now hl4).2.2.2.1
        rw [Nat.zero_add] at d3
        clear hin hnlm hcn c0 hf4
        cases th with
        | false =>
          clear hl4
          go_upto_region 9 with (fail)
          clear d3
          have hq1 := (pfx_now (node_pfx Hl4.out)).2
          have hp1 := (pfx_now Hc4.out).2
          have hp0 := (pfx_now Hc4.out).1
          rw [Nat.zero_add] at hq1 hp1
          by_cases hle : q.len = p.len
          · have hb : (q.len == p.len) = true := by simp [hle]
            have HA := hide (show (acc).map NodeM.ent = pathT t p from by
              have h := Hacc.out
              rw [pathT, if_pos Hcv.out, if_pos hle] at h
              simpa [NodeM.ent] using h)
            clear hle hp0
            go_wp2_with fail
            go_ret
            exact ⟨⟨sa, sl, sc⟩, acc, rfl, ⟨Hn4.out.1, fun b hb => Nat.le_trans Hf2.out.size (Hn4.out.2 b hb)⟩, HA.out, Hf2.out.tr Hf4.out⟩
          · have hb : (q.len == p.len) = false := by simp [hle]
            have hlt : heldN q.len < 32 := by
              have h1 := (covB_iff Hgood.out.1 Hp.out).1 Hcv.out
              have := h1.1; have := Hp.out.bd; have := Hgood.out.1.cast; omega
            have hpath : pathT (.node i q qv false l r) p = (if halfB p.addr (heldN q.len) = 0 then pathT l p else pathT r p) := by
              rw [pathT, if_pos Hcv.out, if_neg hle]; rfl
            have Hpath := hide hpath
            have hlen : q.len = ((heldN q.len : Nat) : Int) := Hgood.out.1.cast.symm
            have Hlt := hide hlt; have Hlen := hide hlen
            clear hle hpath hlen hlt
            have hk4 : w4.cell? ⟨w3.heap.size, 4, none⟩ = some (.int .i64 (l.id : Nat)) := by have h := Hl4.out 4 _ rfl; rwa [Nat.zero_add] at h
            have hk5 : w4.cell? ⟨w3.heap.size, 5, none⟩ = some (.int .i64 (r.id : Nat)) := by have h := Hl4.out 5 _ rfl; rwa [Nat.zero_add] at h
            go_upto_region 10 with (fail)
            clear hb hp1
            rw [Hlen.out] at hq1
            go_wp2_with fail
            refine (trie_half p.addr (heldN q.len) Hp.out.lt Hlt.out _).mono ?_
            rintro e w6 ⟨rfl, rfl⟩
            clear hq1 hp0
            rcases halfB_lt p.addr (heldN q.len) with hk | hk
            · rw [hk]
              have HA := hide (show (acc).map NodeM.ent ++ pathT l p = pathT t p from by
                have h := Hacc.out
                rw [Hpath.out, if_pos hk] at h
                simpa [NodeM.ent] using h)
              clear hk
              go_wp2_with fail
              go_roundg l.count
              case measure => have := Hgk.out; simp only [T.count] at this; omega
              case rel => exact ⟨l, acc, ⟨sa, sl, sc⟩, rfl, Hrep.out.2.2.1, Hgood.out.2.2.2.2.1, rfl, rfl, Hn4.out, Hf4.out, HA.out⟩
            · rw [hk]
              have HA := hide (show (acc).map NodeM.ent ++ pathT r p = pathT t p from by
                have h := Hacc.out
                rw [Hpath.out, if_neg (by omega)] at h
                simpa [NodeM.ent] using h)
              clear hk
              go_wp2_with fail
              go_roundg r.count
              case measure => have := Hgk.out; simp only [T.count] at this; omega
              case rel => exact ⟨r, acc, ⟨sa, sl, sc⟩, rfl, Hrep.out.2.2.2, Hgood.out.2.2.2.2.2, rfl, rfl, Hn4.out, Hf4.out, HA.out⟩

        | true =>
          go_upto_region 8 with (fail)
          clear d3
          go_upto_region 9 with (first | (refine wpList_load_at rfl 87 (.tmp 7) rfl w3.heap.size 0 rfl (NodeM.mk q qv true l.id r.id).cells hl4 _ Try.underlying87 rfl (by kernel_rfl) ?_) | (refine wpList_buildSlice rfl 78 1 _ rfl #[(0, .agg (NodeM.mk q qv true l.id r.id).cells.toArray)] (by kernel_rfl) Try.underlying78 (.agg zeroN.cells.toArray) 6 (by kernel_rfl) (NodeM.mk q qv true l.id r.id).cells.toArray (by decide) (by decide) (by kernel_rfl) ?_) | (refine wpList_append_newD (w0 := w2) (N := 6) (cells := NodeM.cells) (xs := acc) (s := ⟨sa, sl, sc⟩) (q := ⟨some ⟨w4.heap.size, 0, none⟩, 1, 1⟩) (ys := [NodeM.mk q qv true l.id r.id]) (ok := fun _ => True) rfl (.tmp 42) (.tmp 44) 78 rfl Try.underlying78 _ 48 node_info (by kernel_rfl) (by decide) NodeM.length NodeM.mem rfl (Hn4.out.fr ((Fr.refl noB w4).alloc _)) (Hf4.out.alloc _) rfl (slof_one NodeM.length _ trivial) (fun h => by cases h) (by simp [maxLen] <;> omega) (by simp <;> omega) ?_; intro s5 w5 hn5 hf5 hf5' hd5; have Hn5 := hide hn5; have Hf5 := hide hf5; have Hf5' := hide hf5'; clear hn5 hf5 hf5' hd5; obtain ⟨s5a, s5l, s5c⟩ := s5))
          have Hl5 := hide ((Hl4.out.alloc (.cells (NodeM.mk q qv true l.id r.id).cells.toArray 87)).fr Hf5'.out (fun hb => by have := Hnew.out.1.lt _ hb; omega))
          have Hc5 := hide ((Hc4.out.alloc (.cells (NodeM.mk q qv true l.id r.id).cells.toArray 87)).fr Hf5'.out (fun hb => by have := Hnew.out.2 _ hb; omega))
          clear hl4
          have hq1 := (pfx_now (node_pfx Hl5.out)).2
          have hp1 := (pfx_now Hc5.out).2
          have hp0 := (pfx_now Hc5.out).1
          rw [Nat.zero_add] at hq1 hp1
          by_cases hle : q.len = p.len
          · have hb : (q.len == p.len) = true := by simp [hle]
            have HA := hide (show ((acc ++ [NodeM.mk q qv true l.id r.id])).map NodeM.ent = pathT t p from by
              have h := Hacc.out
              rw [pathT, if_pos Hcv.out, if_pos hle] at h
              simpa [NodeM.ent] using h)
            clear hle hp0
            go_wp2_with fail
            go_ret
            exact ⟨⟨s5a, s5l, s5c⟩, (acc ++ [NodeM.mk q qv true l.id r.id]), rfl, ⟨Hn5.out.1, fun b hb => Nat.le_trans Hf2.out.size (Hn5.out.2 b hb)⟩, HA.out, Hf2.out.tr Hf5.out⟩
          · have hb : (q.len == p.len) = false := by simp [hle]
            have hlt : heldN q.len < 32 := by
              have h1 := (covB_iff Hgood.out.1 Hp.out).1 Hcv.out
              have := h1.1; have := Hp.out.bd; have := Hgood.out.1.cast; omega
            have hpath : pathT (.node i q qv true l r) p = ⟨q, qv⟩ :: (if halfB p.addr (heldN q.len) = 0 then pathT l p else pathT r p) := by
              rw [pathT, if_pos Hcv.out, if_neg hle]; rfl
            have Hpath := hide hpath
            have hlen : q.len = ((heldN q.len : Nat) : Int) := Hgood.out.1.cast.symm
            have Hlt := hide hlt; have Hlen := hide hlen
            clear hle hpath hlen hlt
            have hk4 : w5.cell? ⟨w3.heap.size, 4, none⟩ = some (.int .i64 (l.id : Nat)) := by have h := Hl5.out 4 _ rfl; rwa [Nat.zero_add] at h
            have hk5 : w5.cell? ⟨w3.heap.size, 5, none⟩ = some (.int .i64 (r.id : Nat)) := by have h := Hl5.out 5 _ rfl; rwa [Nat.zero_add] at h
            go_upto_region 10 with (fail)
            clear hb hp1
            rw [Hlen.out] at hq1
            go_wp2_with fail
            refine (trie_half p.addr (heldN q.len) Hp.out.lt Hlt.out _).mono ?_
            rintro e w6 ⟨rfl, rfl⟩
            clear hq1 hp0
            rcases halfB_lt p.addr (heldN q.len) with hk | hk
            · rw [hk]
              have HA := hide (show ((acc ++ [NodeM.mk q qv true l.id r.id])).map NodeM.ent ++ pathT l p = pathT t p from by
                have h := Hacc.out
                rw [Hpath.out, if_pos hk] at h
                simpa [NodeM.ent] using h)
              clear hk
              go_wp2_with fail
              go_roundg l.count
              case measure => have := Hgk.out; simp only [T.count] at this; omega
              case rel => exact ⟨l, (acc ++ [NodeM.mk q qv true l.id r.id]), ⟨s5a, s5l, s5c⟩, rfl, Hrep.out.2.2.1, Hgood.out.2.2.2.2.1, rfl, rfl, Hn5.out, Hf5.out, HA.out⟩
            · rw [hk]
              have HA := hide (show ((acc ++ [NodeM.mk q qv true l.id r.id])).map NodeM.ent ++ pathT r p = pathT t p from by
                have h := Hacc.out
                rw [Hpath.out, if_neg (by omega)] at h
                simpa [NodeM.ent] using h)
              clear hk
              go_wp2_with fail
              go_roundg r.count
              case measure => have := Hgk.out; simp only [T.count] at this; omega
              case rel => exact ⟨r, (acc ++ [NodeM.mk q qv true l.id r.id]), ⟨s5a, s5l, s5c⟩, rfl, Hrep.out.2.2.2, Hgood.out.2.2.2.2.2, rfl, rfl, Hn5.out, Hf5.out, HA.out⟩

end Go.Proofs.Ytgjabgneapdbiaa
