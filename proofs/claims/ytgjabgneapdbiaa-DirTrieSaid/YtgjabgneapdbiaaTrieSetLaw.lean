/- The law TrieSet, walked: it returns true. -/
import Derived.Test.YtgjabgneapdbiaaTrieLaid
namespace Go.Proofs.Ytgjabgneapdbiaa
open Go.RowKit Go.BigFrame
set_option linter.unusedSimpArgs false
set_option linter.unusedVariables false
attribute [local irreducible] wpMix wpAnyG

theorem put_front {l : List EntM} {x : EntM} (hs : SortedE (x :: l)) : putE l x.p x.v = x :: l := by
  have hlt : ∀ y ∈ l, befP x.p y.p := (List.pairwise_cons.1 hs).1
  have hp : posE l x.p = 0 := posE_eq (Nat.zero_le _) (fun j y hj _ => by omega) (fun y hy h => befP_irrefl _ (befP_trans (hlt y (List.mem_of_getElem? hy)) h))
  have hh : hasE l x.p = false := by
    cases h : hasE l x.p with
    | false => rfl
    | true =>
      exfalso
      obtain ⟨y, hy, hsm⟩ := hasE_some h
      have := hlt y (List.mem_of_getElem? hy)
      rw [hsm] at this
      exact befP_irrefl _ this
  unfold putE
  rw [hh, hp, if_neg (by simp)]
  rfl
theorem set_drop {l : List EntM} {k : Nat} {x : EntM} (hs : SortedE l) (ho : ∀ y ∈ l, okP y.p) (hx : l[k]? = some x) : setX (l.drop (k + 1)) x.p x.v = ⟨0, l.drop k⟩ := by
  obtain ⟨hk, he⟩ := List.getElem?_eq_some_iff.1 hx
  have hd : l.drop k = x :: l.drop (k + 1) := by rw [← he]; exact List.drop_eq_getElem_cons hk
  have hss : SortedE (x :: l.drop (k + 1)) := by rw [← hd]; exact hs.sublist (List.drop_sublist _ _)
  unfold setX
  rw [if_pos (ho x (List.mem_of_getElem? hx)).1, put_front hss, hd]
theorem long_three (o : Option EntM) : ∃ (q : PrefixM) (v : Int) (b : Bool), longV o = .tuple #[.agg q.cells.toArray, .int .i64 v, .bool b] := by
  cases o with
  | none => exact ⟨_, _, _, rfl⟩
  | some x => exact ⟨_, _, _, rfl⟩
def SetAtT (w0 : World) (g : Nat) (l : List EntM) (i : Value) (wr : World) : Prop :=
  ∃ (k : Nat) (F : Nat → Prop), k ≤ l.length ∧ i = .int .i64 ((k : Int) - 1) ∧ Trie wr F g (l.drop k) (1 + 2 * (l.length - k)) ∧ Fr noB w0 wr ∧ ∀ b, F b → w0.heap.size ≤ b

set_option maxRecDepth 100000 in
set_option maxHeartbeats 4000000 in
theorem law_set (s : SlV) (xs : List TActM) (a : Nat) (ha : a < 4294967296) (w : World) (hs : TActs w s xs) :
    Calls Try.prog 7 #[.slice s.a s.len s.cap, .int .u32 (a : Nat)] w fun e w' => e = .returned (.bool true) ∧ Fr noB w w' := by
  have Hs := hide hs
  clear hs
  go_enter Try.func7, Try.ntmps7
  go_wp2_with fail
  refine (law_laid s xs w Hs.out).mono ?_
  rintro e w2 ⟨l, g, gx, rfl, hlen, hb⟩
  obtain ⟨hf2, F, G, htr, hdoc, _⟩ := hb
  have Hf2 := hide hf2; have Htr := hide htr
  obtain ⟨⟨⟨pa, pl, pc⟩, ⟨va, vl, vc⟩, hblk, hop, hov, _⟩, _⟩ := hdoc
  have hpl : pl = l.length := hop.1
  have hvl : vl = l.length := hov.1
  have Hblk := hide hblk; have Hop := hide hop; have Hov := hide hov
  have hp80 : pl ≤ 80 := by omega
  have Hpl := hide hpl; have Hvl := hide hvl
  clear hf2 htr hblk hop hov hpl hvl
  go_wp2_with fail
  refine (trie_new _).mono ?_
  rintro e w3 ⟨gc, rfl, hr3, hf3⟩
  have HS : Hid (SetAtT w2 gc l (.int .i64 ((l.length : Int) - 1)) w3) := by
    refine ⟨l.length, newF w2 w3, Nat.le_refl _, rfl, ?_, hf3, fun b hb => hb.1⟩
    rw [List.drop_length, Nat.sub_self]
    exact hr3
  have c3 : w3.cell? ⟨gx, 0, none⟩ = some (.slice pa pl pc) := by rw [(Hblk.out.fr hf3 (fun h => h)).cell 0]; rfl
  clear hr3 hf3
  go_upto_region 6 with (fail)
  clear c3
  go_loopw [8] (SetAtT w2 gc l) (fun i _ => (intOf i + 1).toNat)
  case atStart => have := HS.out; rw [← Hpl.out] at this; exact this
  case round =>
    obtain ⟨k, F', hk, rfl, hcr, hfr, hF⟩ := hrel
    have Hcr' := hide hcr; have Hfr := hide hfr; have HF := hide hF
    clear hcr hfr hF HS
    cases k with
    | succ j =>
      rw [show (((j + 1 : Nat) : Int) - 1) = (j : Int) by omega]
      have hj : j < pl := by have := Hpl.out; omega
      have hjv : j < vl := by have := Hpl.out; have := Hvl.out; omega
      have hx : l[j]? = some l[j] := List.getElem?_eq_getElem (by omega)
      generalize l[j] = x at hx
      obtain ⟨gp, hgp, _, hcx, _⟩ := own_at Hop.out pcE_length hx
      obtain ⟨gv, hgv, _, hcv, _⟩ := own_at Hov.out vcE_length hx
      simp only at hgp hgv
      subst hgp; subst hgv
      have hpL : gp < w2.heap.size := Hop.out.lt gp ⟨_, rfl, rfl⟩
      have hvL : gv < w2.heap.size := Hov.out.lt gv ⟨_, rfl, rfl⟩
      have hgL : gx < w2.heap.size := Hblk.out.lt
      have Hx := hide hx
      have Hcx := hide (show CellsAt wr gp (j * 2) x.p.cells from (show CellsAt w2 gp (j * 2) x.p.cells from hcx).fr Hfr.out (fun h => h))
      have Hcv := hide (show CellsAt wr gv (j * 1) [.int .i64 x.v] from (show CellsAt w2 gv (j * 1) [.int .i64 x.v] from hcv).fr Hfr.out (fun h => h))
      have hmul : ((j : Int) * 2).toNat = j * 2 := by omega
      have hmul1 : ((j : Int) * 1).toNat = j := by omega
      have hmul2 : (j : Int).toNat = j := by omega
      have hg0 : ∀ z : GrowS (fun b => w2.heap.size ≤ b) wr, z.v.cell? ⟨gx, 0, none⟩ = some (.slice (some ⟨gp, 0, none⟩) pl pc) := fun z => by rw [((Hblk.out.fr Hfr.out (fun h => h)).fr z.fr (fun h => by omega)).cell 0]; rfl
      have hg1 : ∀ z : GrowS (fun b => w2.heap.size ≤ b) wr, z.v.cell? ⟨gx, 1, none⟩ = some (.slice (some ⟨gv, 0, none⟩) vl vc) := fun z => by rw [((Hblk.out.fr Hfr.out (fun h => h)).fr z.fr (fun h => by omega)).cell 1]; rfl
      have hg2 : ∀ z : GrowS (fun b => w2.heap.size ≤ b) wr, z.v.cell? ⟨gv, j, none⟩ = some (.int .i64 x.v) := fun z => by have := Hcv.out.fr z.fr (fun h => by omega) 0 _ rfl; simpa using this
      clear hx hk hcx hcv
      go_upto_region 8 with (fail)
      refine wp_region_mix (fun W => ∃ z : GrowS (fun b => w2.heap.size ≤ b) wr, W = z.v) (by kernel_rfl) (by kernel_rfl) (inGrowS (Fr.refl _ _).drew) ?_
      iterate 7 (first | (refine wpMix_skip rfl ?_; simp only [Act.put, List.setIfInBounds_toArray, List.set_cons_succ, List.set_cons_zero]) | (refine wpMix_calm rfl rfl (fun K hK => ?_); go_big_quiet_op; refine hK _ ?_; clear hK K))
      refine wpMix_load_atw rfl 28 (.tmp 43) rfl gp (j * 2) (by go_simp) x.p.cells (fun W hW => by obtain ⟨z, rfl⟩ := hW; exact Hcx.out.fr z.fr (fun h => by omega)) _ Try.underlying28 rfl (by kernel_rfl) ?_
      simp only [Act.put, List.setIfInBounds_toArray, List.set_cons_succ, List.set_cons_zero]
      iterate 7 (first | (refine wpMix_skip rfl ?_; simp only [Act.put, List.setIfInBounds_toArray, List.set_cons_succ, List.set_cons_zero]) | (refine wpMix_calm rfl rfl (fun K hK => ?_); go_big_quiet_op; refine hK _ ?_; clear hK K))
      refine wpMix_spine rfl rfl (fun K hK => ?_); go_wp2_with fail
      refine (trie_setX wr.drew F' gc _ _ (Hcr'.out.frN (Fr.refl noB wr).drew) (by omega) x.p (Htr.out.ok x (List.mem_of_getElem? Hx.out)).2 x.v).mono ?_
      rintro e w5 ⟨rfl, hr5, hf5⟩
      have hf5' : Fr F' wr w5 := (Fr.refl F' wr).drew.tr hf5
      rw [set_drop Htr.out.sorted Htr.out.ok Hx.out] at hr5
      refine hK _ _ rfl (inGrowS (hf5'.mono (fun b _ hb => HF.out b hb))) ?_
      clear hK K
      have HN := hide (show SetAtT w2 gc l (.int .i64 ((j : Int) - 1)) w5 from by
        refine ⟨j, gr F' wr w5, by have := Hpl.out; omega, rfl, Trie.up (m := 1 + 2 * (l.length - (j + 1)) + 2) hr5 (by have := Hpl.out; omega), Hfr.out.trans hf5' (fun _ _ h => h) (fun b hb h => by have := HF.out b h; omega), fun b hb => ?_⟩
        have := Hfr.out.size
        rcases hb with hb | hb
        · exact HF.out b hb
        · omega)
      generalize (setX (l.drop (j + 1)) x.p x.v).e = e' at *
      clear hr5 hf5 hf5'
      repeat (first | (refine wpMix_skip rfl ?_; simp only [Act.put, List.setIfInBounds_toArray, List.set_cons_succ, List.set_cons_zero]) | (refine wpMix_calm rfl rfl (fun K hK => ?_); go_big_quiet_op; refine hK _ ?_; clear hK K))
      refine wpMix_nil ?_
      clear hg0 hg1 hg2
      go_wp2_with fail
      go_roundw
      case rel => exact HN.out
      case measure => simp [intOf]
    | zero =>
      have Hc' : Hid (Trie wr F' gc l (1 + 2 * (l.length - 0))) := by have := Hcr'.out; rw [List.drop_zero] at this; exact hide this
      clear Hcr'
      rw [show (((0 : Nat) : Int) - 1) = -1 by omega]
      obtain ⟨q, v, b, hq⟩ := long_three (longE l a)
      have Hq := hide hq
      clear hq
      go_wp2_with fail
      refine (trie_long wr F g l 161 (Htr.out.frN Hfr.out) a ha).mono ?_
      rintro e w4 ⟨rfl, hf4⟩
      rw [Hq.out]
      have Hf4 := hide hf4
      clear hf4
      go_upto_region 10 with (refine wpList_store_new rfl 28 _ _ rfl _ _ (PrefixM.cells _) _ rfl rfl (by simp) (by kernel_rfl) rfl (by kernel_rfl) ?_)
      refine wp_gen (fun W => CellsAt W w4.heap.size 0 q.cells ∧ Fr noB wr W) ⟨cells_new _ _ _ rfl, Hf4.out.alloc _⟩ ?_
      rintro w5 ⟨hc5, hf5⟩
      have Hc5 := hide hc5; have Hf5 := hide hf5
      clear hc5 hf5
      go_wp2_with fail
      refine (trie_long w5 F' gc l _ (Hc'.out.frN Hf5.out) a ha).mono ?_
      rintro e w6 ⟨rfl, hf6⟩
      rw [Hq.out]
      have Hf6 := hide hf6
      clear hf6
      go_upto_region 11 with (refine wpList_store_new rfl 28 _ _ rfl _ _ (PrefixM.cells _) _ rfl rfl (by simp) (by kernel_rfl) rfl (by kernel_rfl) ?_)
      refine wp_gen (fun W => CellsAt W w6.heap.size 0 q.cells ∧ Fr noB w5 W) ⟨cells_new _ _ _ rfl, Hf6.out.alloc _⟩ ?_
      rintro w7 ⟨hc7, hf7⟩
      have Hc7 := hide hc7; have Hf7 := hide hf7
      have Hc57 := hide (Hc5.out.fr hf7 (fun h => h))
      have HF7 := hide (Hf5.out.tr hf7)
      clear hc7 hf7
      go_wp2_with fail
      refine (trie_Walk w7 F g l 161 (Htr.out.frN (Hfr.out.tr HF7.out))).mono ?_
      rintro e w8 ⟨s8, rfl, hn8, hf8⟩
      have Hn8 := hide hn8; have Hf8 := hide (HF7.out.tr hf8); have Hz8 := hide hf8
      clear hn8 hf8
      go_wp2_with fail
      refine (trie_Walk w8 F' gc l _ (Hc'.out.frN Hf8.out)).mono ?_
      rintro e w9 ⟨s9, rfl, hn9, hf9⟩
      have Hn9 := hide hn9; have Hn8' := hide (Hn8.out.fr hf9); have Hf9 := hide (Hf8.out.tr hf9); have Hz9 := hide (Hz8.out.tr hf9)
      clear hn9 hf9
      go_wp2_with fail
      refine (law_prefixes s8 _ s9 _ w9 (Hn8'.out.slof PrefixM.length (fun _ _ => trivial)) (Hn9.out.slof PrefixM.length (fun _ _ => trivial))).mono ?_
      rintro e w10 ⟨rfl, hf10⟩
      rw [decide_eq_true rfl]
      have Hf10 := hide (Hf9.out.tr hf10); have Hz10 := hide (Hz9.out.tr hf10)
      clear hf10
      go_wp2_with fail
      refine (trie_nodes w10 F g l 161 (Htr.out.frN (Hfr.out.tr Hf10.out))).mono ?_
      rintro e w11 ⟨rfl, hf11⟩
      have Hf11 := hide (Hf10.out.tr hf11); have Hz11 := hide (Hz10.out.tr hf11)
      clear hf11
      go_wp2_with fail
      refine (trie_nodes w11 F' gc l _ (Hc'.out.frN Hf11.out)).mono ?_
      rintro e w12 ⟨rfl, hf12⟩
      have Hf12 := hide (Hf11.out.tr hf12); have Hz12 := hide (Hz11.out.tr hf12)
      have hcq : CellsAt w12 w4.heap.size 0 q.cells := Hc57.out.fr Hz12.out (fun h => h)
      have hcq2 : CellsAt w12 w6.heap.size 0 q.cells := Hc7.out.fr Hz12.out (fun h => h)
      have hvv : (v == v) = true := by simp
      have hbb : (b == b) = true := by cases b <;> rfl
      generalize nodesN (l.map (·.p)) = nn
      have hnn : (((nn : Nat) : Int) == ((nn : Nat) : Int)) = true := by simp
      clear hf12
      go_wp2_with (first | (refine wpList_load_atw rfl 28 (.tmp 9) rfl w4.heap.size 0 rfl q.cells hcq _ Try.underlying28 rfl (by kernel_rfl) ?_) | (refine wpList_load_atw rfl 28 (.tmp 12) rfl w6.heap.size 0 rfl q.cells hcq2 _ Try.underlying28 rfl (by kernel_rfl) ?_) | (refine wpList_eqs rfl false 28 (.tmp 80) (.tmp 81) rfl q.cells.toArray q.cells.toArray rfl rfl true (by kernel_rfl) (by rw [prefix_equal, decide_eq_true rfl]) ?_; rw [show (false ^^ true) = true from rfl]))
      refine (law_known w12).mono ?_
      rintro e w13 ⟨rfl, hf13⟩
      have Hf13 := hide (Hf12.out.tr hf13)
      clear hf13 hcq hcq2
      go_wp2_with fail
      go_ret
      exact ⟨rfl, Hf2.out.tr (Hfr.out.tr Hf13.out)⟩
end Go.Proofs.Ytgjabgneapdbiaa
