/- The law TrieDel, walked: it returns true. -/
import Derived.Test.YtgjabgneapdbiaaTrieSetLaw
import Derived.Lib.QuoteBits
namespace Go.Proofs.Ytgjabgneapdbiaa
open Go.RowKit Go.BigFrame
set_option linter.unusedSimpArgs false
set_option linter.unusedVariables false
attribute [local irreducible] wpMix wpAnyG

theorem mask_and16 (n : Int) : ∃ m : Nat, m ≤ 65535 ∧ bits BinOp.and IntKind.i64 n 65535 = (m : Int) := by
  refine ⟨(BitVec.ofInt 64 n).toNat % 65536, by omega, ?_⟩
  show IntKind.i64.wrap ((BitVec.ofInt 64 n &&& BitVec.ofInt 64 65535).toNat : Int) = _
  have e : (BitVec.ofInt 64 65535).toNat = 2 ^ 16 - 1 := by decide
  rw [BitVec.toNat_and, e, Nat.and_two_pow_sub_one_eq_mod]
  exact Lib.wrap_i64_small _ (by omega)
/-- What is there is found at its place. -/
theorem pos_at {l : List EntM} (hs : SortedE l) {k : Nat} {x : EntM} (hx : l[k]? = some x) : posE l x.p = k := by
  have hk := (List.getElem?_eq_some_iff.1 hx).1
  exact posE_eq (by omega) (fun j y hj hy => hs.get hj hy hx) (fun y hy => by rw [hx] at hy; obtain rfl := Option.some.inj hy; exact befP_irrefl _)
theorem has_at {l : List EntM} (hs : SortedE l) {k : Nat} {x : EntM} (hx : l[k]? = some x) : hasE l x.p = true := (hasE_iff hs x.p).2 ⟨x, List.mem_of_getElem? hx, rfl⟩
theorem del_sorted {l : List EntM} (hs : SortedE l) (p : PrefixM) : SortedE (delE l p) := by
  unfold delE
  split
  · unfold SortedE at *
    refine hs.sublist ?_
    have h : l = l.take (posE l p) ++ l.drop (posE l p) := (List.take_append_drop _ _).symm
    conv => rhs; rw [h]
    exact List.Sublist.append (List.Sublist.refl _) (by rw [← List.drop_drop]; exact List.drop_sublist _ _)
  · exact hs
theorem del_has {l : List EntM} (hs : SortedE l) (p : PrefixM) : hasE (delE l p) p = false := by
  cases h : hasE (delE l p) p with
  | false => rfl
  | true =>
    obtain ⟨x, hx, hp⟩ := (hasE_iff (del_sorted hs p) p).1 h
    exact absurd hp ((del_E_mem hs p x).1 hx).2
theorem del_twice {l : List EntM} (hs : SortedE l) (p : PrefixM) : delE (delE l p) p = delE l p := by
  have h := del_has hs p
  generalize delE l p = d at h
  unfold delE
  rw [h]
  simp
theorem del_get {l : List EntM} (hs : SortedE l) (p : PrefixM) : getE (delE l p) p = none := by
  unfold getE
  rw [List.find?_eq_none]
  intro x hx h
  exact absurd (of_decide_eq_true h) ((del_E_mem hs p x).1 hx).2
theorem del_put {l : List EntM} (hs : SortedE l) {x : EntM} (hx : x ∈ l) : putE (delE l x.p) x.p x.v = l := by
  refine eq_of_sorted (put_E_sorted (del_sorted hs _) _ _) hs (fun y => ?_)
  rw [put_E_mem (del_sorted hs _), del_E_mem hs]
  constructor
  · rintro (rfl | ⟨⟨h, _⟩, _⟩)
    · exact hx
    · exact h
  · intro hy
    by_cases e : y.p = x.p
    · exact .inl (hs.uniq hy hx e)
    · exact .inr ⟨⟨hy, e⟩, e⟩
theorem del_len {l : List EntM} (hs : SortedE l) {k : Nat} {x : EntM} (hx : l[k]? = some x) : (delE l x.p).length + 1 = l.length := by
  have hk := (List.getElem?_eq_some_iff.1 hx).1
  unfold delE
  rw [has_at hs hx, if_pos rfl, pos_at hs hx]
  simp [List.length_take, List.length_drop]
  omega

set_option maxRecDepth 100000 in
set_option maxHeartbeats 4000000 in
theorem law_del (s : SlV) (xs : List TActM) (n : Int) (w : World) (hs : TActs w s xs) :
    Calls Try.prog 9 #[.slice s.a s.len s.cap, .int .i64 n] w fun e w' => e = .returned (.bool true) ∧ Fr noB w w' := by
  have Hs := hide hs
  clear hs
  obtain ⟨m, hm31, hm⟩ := mask_and16 n
  go_enter Try.func9, Try.ntmps9
  go_wp2_with fail
  refine (law_laid s xs w Hs.out).mono ?_
  rintro e w2 ⟨l, g, gx, rfl, hlen, hb⟩
  obtain ⟨hf2, F, G, htr, hdoc, _, hF2, _⟩ := hb
  have Hf2 := hide hf2; have Htr := hide htr; have HF2 := hide hF2
  obtain ⟨⟨⟨pa, pl, pc⟩, ⟨va, vl, vc⟩, hblk, hop, hov, _⟩, _⟩ := hdoc
  have hpl : pl = l.length := hop.1
  have hvl : vl = l.length := hov.1
  have hp80 : pl ≤ 80 := by omega
  have Hblk := hide hblk; have Hop := hide hop; have Hov := hide hov
  have Hpl := hide hpl; have Hvl := hide hvl
  have c2 : w2.cell? ⟨gx, 0, none⟩ = some (.slice pa pl pc) := by rw [hblk.cell 0]; rfl
  clear hf2 htr hblk hop hov hpl hvl hF2
  by_cases h0 : pl = 0
  · have hl0 : l = [] := List.eq_nil_of_length_eq_zero (by have := Hpl.out; omega)
    have Hl0 := hide hl0
    subst h0
    clear hl0
    go_wp2_with (refine wpList_build_as rfl 28 _ rfl (PrefixM.mk 0 0).cells.toArray (by kernel_rfl) ?_)
    refine (trie_delX w2 F g l 161 Htr.out ⟨0, 0⟩ ⟨by decide, by unfold i64b; decide⟩).mono ?_
    rintro e w3 ⟨rfl, _, hf3⟩
    have hh : hasE l ⟨0, 0⟩ = false := by rw [Hl0.out]; rfl
    rw [hh]
    have Hf3 := hide (show Fr noB w w3 from Hf2.out.trans hf3 (fun _ _ h => h) (fun b hb h => by have := HF2.out b h; omega))
    clear hf3 hh
    go_wp2_with fail
    refine (law_known w3).mono ?_
    rintro e w4 ⟨rfl, hf4⟩
    have Hf4 := hide (Hf3.out.tr hf4)
    clear hf4
    go_wp2_with fail
    go_ret
    exact ⟨rfl, Hf4.out⟩
  · obtain ⟨k, hk⟩ : ∃ k : Nat, (m : Int).tmod (pl : Int) = (k : Int) ∧ k < pl := ⟨m % pl, (Int.ofNat_tmod m pl).symm, Nat.mod_lt _ (by omega)⟩
    obtain ⟨hkm, hkl⟩ := hk
    have hx : l[k]? = some (l[k]'(by have := Hpl.out; omega)) := List.getElem?_eq_getElem _
    generalize l[k] = x at hx
    obtain ⟨gp, hgp, _, hcx, _⟩ := own_at Hop.out pcE_length hx
    obtain ⟨gv, hgv, _, hcv, _⟩ := own_at Hov.out vcE_length hx
    simp only at hgp hgv
    subst hgp; subst hgv
    have Hx := hide hx
    have Hcx := hide (show CellsAt w2 gp (k * 2) x.p.cells from hcx)
    have Hcv := hide (show CellsAt w2 gv (k * 1) [.int .i64 x.v] from hcv)
    have hkv : k < vl := by have := Hpl.out; have := Hvl.out; omega
    clear hx hcx hcv
    go_upto_region 7 with (fail)
    have hmul : ((k : Int) * 2).toNat = k * 2 := by omega
    have hmul1 : ((k : Int) * 1).toNat = k := by omega
    have hmul2 : (k : Int).toNat = k := by omega
    have hg0 : ∀ z : Grow w2, z.v.cell? ⟨gx, 0, none⟩ = some (.slice (some ⟨gp, 0, none⟩) pl pc) := fun z => by rw [(Hblk.out.fr z.fr (fun h => h)).cell 0]; rfl
    have hg1 : ∀ z : Grow w2, z.v.cell? ⟨gx, 1, none⟩ = some (.slice (some ⟨gv, 0, none⟩) vl vc) := fun z => by rw [(Hblk.out.fr z.fr (fun h => h)).cell 1]; rfl
    have hg2 : ∀ z : Grow w2, z.v.cell? ⟨gv, k, none⟩ = some (.int .i64 x.v) := fun z => by have := Hcv.out.fr z.fr (fun h => h) 0 _ rfl; simpa using this
    refine wp_region_mix (fun W => ∃ z : Grow w2, W = z.v) (by kernel_rfl) (by kernel_rfl) (inGrow (Fr.refl _ _).drew) ?_
    iterate 6 (first | (refine wpMix_skip rfl ?_; simp only [Act.put, List.setIfInBounds_toArray, List.set_cons_succ, List.set_cons_zero]) | (refine wpMix_calm rfl rfl (fun K hK => ?_); go_big_quiet_op; refine hK _ ?_; clear hK K))
    refine wpMix_load_atw rfl 28 (.tmp 48) rfl gp (k * 2) (by go_simp) x.p.cells (fun W hW => by obtain ⟨z, rfl⟩ := hW; exact Hcx.out.fr z.fr (fun h => h)) _ Try.underlying28 rfl (by kernel_rfl) ?_
    simp only [Act.put, List.setIfInBounds_toArray, List.set_cons_succ, List.set_cons_zero]
    iterate 7 (first | (refine wpMix_skip rfl ?_; simp only [Act.put, List.setIfInBounds_toArray, List.set_cons_succ, List.set_cons_zero]) | (refine wpMix_calm rfl rfl (fun K hK => ?_); go_big_quiet_op; refine hK _ ?_; clear hK K))
    refine wpMix_spine rfl rfl (fun K hK => ?_); go_wp2_with fail
    refine hK _ _ rfl (inGrow ((Fr.refl _ _).drew.alloc _)) ?_
    clear hK K
    refine wpMix_store_blk rfl 28 (.tmp 8) (.tmp 49) rfl w2.heap.size x.p.cells rfl rfl _ _ (show Blk _ w2.heap.size _ _ from Blk.alloc_new w2.drew _ _) rfl (by kernel_rfl) (PrefixM.mem _) (inGrow (Fr.setRow ((Fr.refl noB w2).drew.alloc _) (.inl (Nat.le_refl _)) _)) ?_
    simp only [Act.put, List.setIfInBounds_toArray, List.set_cons_succ, List.set_cons_zero]
    repeat (first | (refine wpMix_skip rfl ?_; simp only [Act.put, List.setIfInBounds_toArray, List.set_cons_succ, List.set_cons_zero]) | (refine wpMix_calm rfl rfl (fun K hK => ?_); go_big_quiet_op; refine hK _ ?_; clear hK K))
    refine wpMix_nil ?_
    clear hg0 hg1 hg2 c2
    have hb3 := Blk.setRow (cs' := x.p.cells.toArray) (Blk.alloc_new w2.drew (PrefixM.mk 0 0).cells.toArray 28)
    have Hb3 := hide hb3
    clear hb3
    go_upto_region 8 with (fail)
    refine wp_gen (fun W => CellsAt W w2.heap.size 0 x.p.cells ∧ Fr noB w2 W) ⟨Hb3.out.cells, Fr.setRow ((Fr.refl noB w2).drew.alloc _) (.inl (Nat.le_refl _)) _⟩ ?_
    rintro w3 ⟨hc3, hf3⟩
    have Hc3 := hide hc3; have Hf3 := hide hf3
    clear hc3 hf3 Hb3
    go_wp2_with fail
    refine (trie_nodes w3 F g l 161 (Htr.out.frN Hf3.out)).mono ?_
    rintro e w4 ⟨rfl, hf4⟩
    have Hf4 := hide (Hf3.out.tr hf4); have Hc4 := hide (Hc3.out.fr hf4 (fun h => h))
    clear hf4
    go_wp2_with fail
    refine (trie_Walk w4 F g l 161 (Htr.out.frN Hf4.out)).mono ?_
    rintro e w5 ⟨s5, rfl, hn5, hf5⟩
    have Hn5 := hide hn5; have Hf5 := hide (Hf4.out.tr hf5); have hc5 : CellsAt w5 w2.heap.size 0 x.p.cells := Hc4.out.fr hf5 (fun h => h)
    have Hc5 := hide hc5
    clear hn5 hf5
    go_wp2_with (refine wpList_load_atw rfl 28 _ rfl _ _ rfl (PrefixM.cells _) (by (repeat (first | assumption | exact cells_new _ _ _ (by simp) | refine CellsAt.alloc ?_ _ | refine CellsAt.drew ?_ | refine CellsAt.drewN ?_ _))) _ Try.underlying28 rfl (by kernel_rfl) ?_)
    refine (trie_delX w5 F g l 161 (Htr.out.frN Hf5.out) x.p (Htr.out.ok x (List.mem_of_getElem? Hx.out)).2).mono ?_
    rintro e w6 ⟨rfl, hr6, hf6⟩
    rw [has_at Htr.out.sorted Hx.out]
    have hfl : ∀ b, F b → b < w2.heap.size := Htr.out.lt
    have hnF : ∀ b, w2.heap.size ≤ b → ¬ F b := fun b hb h => by have := hfl b h; omega
    have Hr6 := hide hr6; have Hf6 := hide hf6
    have Hn6 := hide (Hn5.out.frS hf6 (fun b hb => hnF b (by have := Hn5.out.2 b hb; have := Hf4.out.size; omega)))
    have hc6 : CellsAt w6 w2.heap.size 0 x.p.cells := Hc5.out.fr hf6 (hnF _ (Nat.le_refl _))
    have Hc6 := hide hc6
    have Hw6 := hide (show Fr noB w w6 from (Hf2.out.tr Hf5.out).trans hf6 (fun _ _ h => h) (fun b hb h => by have := HF2.out b h; omega))
    clear hr6 hf6 hc5 hfl hnF
    go_wp2_with (refine wpList_load_atw rfl 28 _ rfl _ _ rfl (PrefixM.cells _) (by (repeat (first | assumption | exact cells_new _ _ _ (by simp) | refine CellsAt.alloc ?_ _ | refine CellsAt.drew ?_ | refine CellsAt.drewN ?_ _))) _ Try.underlying28 rfl (by kernel_rfl) ?_)
    refine (trie_get w6 _ g _ 161 Hr6.out x.p (Htr.out.ok x (List.mem_of_getElem? Hx.out)).2).mono ?_
    rintro e w7 ⟨rfl, hf7⟩
    rw [del_get Htr.out.sorted]
    have Hf7 := hide hf7; have hc7 : CellsAt w7 w2.heap.size 0 x.p.cells := Hc6.out.fr hf7 (fun h => h)
    clear hf7 hc6
    unfold getV
    simp only
    go_wp2_with fail
    refine (trie_len w7 _ g _ 161 (Hr6.out.frN Hf7.out)).mono ?_
    rintro e w8 ⟨rfl, rfl⟩
    have hdl := del_len Htr.out.sorted Hx.out
    have hs5 : s5.len = l.length := by have := Hn5.out.len; simpa using this
    generalize hdd : (delE l x.p).length = dd at hdl
    have Hdd := hide hdd
    obtain ⟨s5a, s5l, s5c⟩ := s5
    simp only at hs5
    have Hs5 := hide hs5
    have hdq : ((dd : Int) != (s5l : Int) - 1) = false := by simp; omega
    have hs80 : s5l ≤ 80 := by omega
    clear hdd hs5 hdl
    go_wp2_with (refine wpList_load_atw rfl 28 _ rfl _ _ rfl (PrefixM.cells _) (by (repeat (first | assumption | exact cells_new _ _ _ (by simp) | refine CellsAt.alloc ?_ _ | refine CellsAt.drew ?_ | refine CellsAt.drewN ?_ _))) _ Try.underlying28 rfl (by kernel_rfl) ?_)
    refine (trie_delX w8 _ g _ 161 (Hr6.out.frN Hf7.out) x.p (Htr.out.ok x (List.mem_of_getElem? Hx.out)).2).mono ?_
    rintro e w9 ⟨rfl, hr9, hf9⟩
    rw [del_has Htr.out.sorted]
    rw [del_twice Htr.out.sorted] at hr9
    have hsz : w2.heap.size < w5.heap.size := block_of_cell (Hc5.out 0 _ rfl)
    have hN5 : ∀ b, ownB ⟨s5a, s5l, s5c⟩ b → ¬ gr F w5 w6 b := fun b hb h => by
      have h1 := Hn5.out.2 b hb; have h2 := Hn5.out.1.lt b hb; have h4 := Hf4.out.size
      rcases h with h | h
      · have := Htr.out.lt b h; omega
      · omega
    have hc9 : CellsAt w9 w2.heap.size 0 x.p.cells := hc7.fr hf9 (fun h => by
      rcases h with h | h
      · have := Htr.out.lt _ h; omega
      · omega)
    have Hn9 := hide ((Hn6.out.fr Hf7.out).frS hf9 hN5)
    have Hw9 := hide ((Hw6.out.tr Hf7.out).trans hf9 (U := noB) (fun _ _ h => h) (fun b hb h => by
      have h2 := Hf2.out.size; have h5 := Hf5.out.size
      rcases h with h | h
      · have := HF2.out b h; omega
      · omega))
    have Hr9 := hide hr9; have Hc9 := hide hc9
    have h78 := Hf7.out.size
    have hs69 : w6.heap.size ≤ w9.heap.size := Nat.le_trans h78 hf9.size
    have hs56 : w5.heap.size ≤ w6.heap.size := Hf6.out.size
    have HN9 := hide (show ∀ b, ownB ⟨s5a, s5l, s5c⟩ b → ¬ gr (gr F w5 w6) w8 w9 b from fun b hb h => by
      have h2 := Hn5.out.1.lt b hb
      rcases h with h | h
      · exact hN5 b hb h
      · omega)
    clear hr9 hf9 hN5 hc7
    go_wp2_with (refine wpList_load_atw rfl 28 _ rfl _ _ rfl (PrefixM.cells _) (by (repeat (first | assumption | exact cells_new _ _ _ (by simp) | refine CellsAt.alloc ?_ _ | refine CellsAt.drew ?_ | refine CellsAt.drewN ?_ _))) _ Try.underlying28 rfl (by kernel_rfl) ?_)
    refine (trie_set w9 _ g _ 161 Hr9.out (by decide) x.p (Htr.out.ok x (List.mem_of_getElem? Hx.out)) x.v).mono ?_
    rintro e w10 ⟨rfl, hr10, hf10⟩
    rw [del_put Htr.out.sorted (List.mem_of_getElem? Hx.out)] at hr10
    have Hn10 := hide (Hn9.out.frS hf10 HN9.out)
    have Hw10 := hide (Hw9.out.trans hf10 (U := noB) (fun _ _ h => h) (fun b hb h => by
      have h2 := Hf2.out.size; have h5 := Hf5.out.size
      rcases h with (h | h) | h
      · have := HF2.out b h; omega
      · omega
      · omega))
    have Hr10 := hide hr10
    clear hr10 hf10 hc9 Hc9 Hr9 HN9 hsz h78 hs69 hs56
    go_wp2_with fail
    refine (trie_Walk w10 _ g l _ Hr10.out).mono ?_
    rintro e w11 ⟨s11, rfl, hn11, hf11⟩
    have Hn11 := hide hn11; have Hf11 := hide hf11
    clear hn11 hf11
    go_wp2_with fail
    refine (law_prefixes s11 _ ⟨s5a, s5l, s5c⟩ _ w11 (Hn11.out.slof PrefixM.length (fun _ _ => trivial)) ((Hn10.out.fr Hf11.out).slof PrefixM.length (fun _ _ => trivial))).mono ?_
    rintro e w12 ⟨rfl, hf12⟩
    rw [decide_eq_true rfl]
    have Hf12 := hide (Hf11.out.tr hf12)
    clear hf12
    generalize hnn : nodesN (l.map (·.p)) = nn
    have Hnn := hide hnn
    have hnn2 : (((nn : Nat) : Int) == ((nn : Nat) : Int)) = true := by simp
    clear hnn
    go_wp2_with fail
    refine (trie_nodes w12 _ g l _ (Hr10.out.frN Hf12.out)).mono ?_
    rintro e w13 ⟨rfl, hf13⟩
    rw [Hnn.out]
    have Hf13 := hide (Hf12.out.tr hf13)
    clear hf13
    go_wp2_with fail
    refine (law_known w13).mono ?_
    rintro e w14 ⟨rfl, hf14⟩
    have Hf14 := hide (Hf13.out.tr hf14)
    clear hf14
    go_wp2_with fail
    go_ret
    exact ⟨rfl, Hw10.out.tr Hf14.out⟩
end Go.Proofs.Ytgjabgneapdbiaa
