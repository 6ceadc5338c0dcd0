/- trie.Get, Longest, Covers. -/
import Derived.Test.YtgjabgneapdbiaaTriePath
import Derived.Test.YtgjabgneapdbiaaTriePlain
namespace Go.Proofs.Ytgjabgneapdbiaa
open Go.RowKit Go.BigFrame
set_option linter.unusedSimpArgs false
set_option linter.unusedVariables false
attribute [local irreducible] wpMix wpAnyG

set_option maxHeartbeats 1000000 in
theorem trie_path_nil (w : World) (p : PrefixM) : Calls Try.prog 56 #[.pointer none, .agg p.cells.toArray] w (PathTo w []) := by
  go_enter Try.func56, Try.ntmps56
  go_wp2_with fail
  go_ret
  exact ⟨⟨none, 0, 0⟩, [], rfl, NewL.nil _ _ _ _ _, rfl, (Fr.refl _ _).alloc _⟩
set_option maxHeartbeats 1000000 in
theorem trie_path_bad (w : World) (a : Addr) (p : PrefixM) (hp : p.wf) (hn : ¬ p = normP p) : Calls Try.prog 56 #[.pointer (some a), .agg p.cells.toArray] w (PathTo w []) := by
  have hd := hide (decide_eq_false hn)
  clear hn
  go_enter Try.func56, Try.ntmps56
  go_upto_region 1 with (fail)
  refine wp_gen (fun W => CellsAt W w.heap.size 0 p.cells ∧ Fr noB w W) ⟨by (repeat (first | assumption | exact cells_new _ _ _ (by simp) | refine CellsAt.alloc ?_ _ | refine CellsAt.drew ?_ | refine CellsAt.drewN ?_ _)), (Fr.refl _ _).alloc _⟩ ?_
  rintro w1 ⟨hc, hf⟩
  have Hf := hide hf
  clear hf
  go_wp2_with (refine wpList_load_atw rfl 28 _ rfl _ _ rfl (PrefixM.cells _) (by (repeat (first | assumption | exact cells_new _ _ _ (by simp) | refine CellsAt.alloc ?_ _ | refine CellsAt.drew ?_ | refine CellsAt.drewN ?_ _))) _ Try.underlying28 rfl (by kernel_rfl) ?_)
  refine (addr_Is p hp _).mono ?_
  rintro e w2 ⟨rfl, hf2⟩
  rw [hd.out]
  have Hf2 := hide (Hf.out.tr hf2)
  clear hf2 hc
  go_wp2_with fail
  go_ret
  exact ⟨⟨none, 0, 0⟩, [], rfl, NewL.nil _ _ _ _ _, rfl, Hf2.out⟩
theorem trie_pathX (w : World) (F : Nat → Prop) (g : Nat) (l : List EntM) (m : Nat) (h : Trie w F g l m) (p : PrefixM) (hp : p.wf) :
    Calls Try.prog 56 #[.pointer (some ⟨g, 0, none⟩), .agg p.cells.toArray] w (PathTo w (pathX l p)) := by
  by_cases hn : p = normP p
  · obtain ⟨t, N, fr, hR, rfl⟩ := h
    have := trie_path w F g t N fr m hR p ⟨hn, hp⟩
    rw [path_eq ⟨hn, hp⟩ hR.good] at this
    unfold pathX
    rw [if_pos hn]
    exact this
  · unfold pathX
    rw [if_neg hn]
    exact trie_path_bad w _ p hp hn

/-- What Get answers. -/
def getV (o : Option EntM) : Value := match o with | some x => .tuple #[.int .i64 x.v, .bool true] | none => .tuple #[.int .i64 0, .bool false]
def getL (es : List EntM) (p : PrefixM) : Option EntM := match es.getLast? with | some x => if x.p = p then some x else none | none => none
theorem ent_last {ns : List NodeM} {n : NodeM} {m : Nat} (h : ns[m]? = some n) (hm : m + 1 = ns.length) : (ns.map NodeM.ent).getLast? = some n.ent := by
  rw [List.getLast?_map]
  have : ns.getLast? = some n := by
    rw [List.getLast?_eq_getElem?, ← hm]; exact h
  rw [this]; rfl
set_option maxRecDepth 100000 in
set_option maxHeartbeats 4000000 in
theorem get_from (a : Option Addr) (w : World) (p : PrefixM) (es : List EntM) (hes : es.length ≤ 1000000) (hpath : ∀ w1, Fr noB w w1 → Calls Try.prog 56 #[.pointer a, .agg p.cells.toArray] w1 (PathTo w1 es)) :
    Calls Try.prog 31 #[.pointer a, .agg p.cells.toArray] w fun e w' => e = .returned (getV (getL es p)) ∧ Fr noB w w' := by
  have Hpath := hide hpath
  clear hpath
  go_enter Try.func31, Try.ntmps31
  go_upto_region 1 with (fail)
  refine wp_gen (fun W => CellsAt W w.heap.size 0 p.cells ∧ Fr noB w W) ⟨by (repeat (first | assumption | exact cells_new _ _ _ (by simp) | refine CellsAt.alloc ?_ _ | refine CellsAt.drew ?_ | refine CellsAt.drewN ?_ _)), (Fr.refl _ _).alloc _⟩ ?_
  rintro w1 ⟨hc, hf⟩
  have Hc := hide hc; have Hf := hide hf
  clear hf
  go_wp2_with (refine wpList_load_atw rfl 28 _ rfl _ _ rfl (PrefixM.cells _) (by (repeat (first | assumption | exact cells_new _ _ _ (by simp) | refine CellsAt.alloc ?_ _ | refine CellsAt.drew ?_ | refine CellsAt.drewN ?_ _))) _ Try.underlying28 rfl (by kernel_rfl) ?_)
  refine (Hpath.out w1 Hf.out).mono ?_
  rintro e w2 ⟨⟨sa, sl, sc⟩, ns, rfl, hn, hes2, hf2⟩
  have Hn := hide hn; have Hes := hide hes2; have Hf2 := hide (Hf.out.tr hf2); have Hc2 := hide (Hc.out.fr hf2 (fun h => h))
  have hsl : sl = ns.length := hn.1.1
  have Hsl := hide hsl
  have hslm : sl ≤ 1000000 := by rw [hsl, ← List.length_map (f := NodeM.ent), hes2]; exact hes
  clear hn hes2 hf2 hc hsl
  cases hns : ns with
  | nil =>
    have h0 : sl = 0 := by rw [Hsl.out, hns]; rfl
    have HV := hide (show getV (getL es p) = .tuple #[.int .i64 0, .bool false] from by rw [← Hes.out, hns]; rfl)
    subst h0
    clear hns
    go_upto_region 2 with (fail)
    refine wp_region_mix (fun W => ∃ z : Grow w2, W = z.v) (by kernel_rfl) (by kernel_rfl) (inGrow (Fr.refl _ _).drew) ?_
    repeat (first | (refine wpMix_skip rfl ?_; simp only [Act.put, List.setIfInBounds_toArray, List.set_cons_succ, List.set_cons_zero]) | (refine wpMix_calm rfl rfl (fun K hK => ?_); go_big_quiet_op; refine hK _ ?_; clear hK K))
    refine wpMix_nil ?_
    go_wp2_with fail
    rw [HV.out]
    exact bodyPost_ret (results_2t Try.results31 _ _ (.int .i64 0) (.bool false) rfl rfl) rfl ⟨rfl, Hf2.out.drew⟩
  | cons n0 ns0 =>
    obtain ⟨m, hm⟩ : ∃ m, m + 1 = ns.length := ⟨ns0.length, by rw [hns]; rfl⟩
    have hml : m < ns.length := by omega
    have hx : ns[m]? = some ns[m] := List.getElem?_eq_getElem hml
    clear hns
    generalize ns[m] = n at hx
    obtain ⟨gs, rfl, _, hcn, _⟩ := own_at Hn.out.1 NodeM.length hx
    have hlast := ent_last hx hm
    have Hlast := hide hlast
    have hsm : sl = m + 1 := by have := Hsl.out; omega
    subst hsm
    have hz : ((m : Int) + 1 == 0) = false := by simp only [beq_eq_false_iff_ne, ne_eq]; omega
    have hmul : ((m : Int) * 6).toNat = m * 6 := by omega
    have hcp : CellsAt w2 gs (m * 6) n.p.cells := node_pfx hcn
    have cv : w2.cell? ⟨gs, m * 6 + 2, none⟩ = some (.int .i64 n.v) := hcn 2 _ rfl
    have Hcv := hide cv
    clear hx hlast hm hml hcn cv
    cases hd : decide (n.p = p) with
    | true =>
      have HV := hide (show getV (getL es p) = .tuple #[.int .i64 n.v, .bool true] from by
        unfold getL
        rw [← Hes.out, Hlast.out]
        simp only
        rw [if_pos (show n.ent.p = p from of_decide_eq_true hd)]; rfl)
      go_upto_region 2 with (fail)
      refine wp_region_mix (fun W => ∃ z : Grow w2, W = z.v) (by kernel_rfl) (by kernel_rfl) (inGrow (Fr.refl _ _).drew) ?_
      iterate 10 (first | (refine wpMix_skip rfl ?_; simp only [Act.put, List.setIfInBounds_toArray, List.set_cons_succ, List.set_cons_zero]) | (refine wpMix_calm rfl rfl (fun K hK => ?_); go_big_quiet_op; refine hK _ ?_; clear hK K))
      refine wpMix_load_atw rfl 28 (.tmp 19) rfl gs (m * 6) (by go_simp) n.p.cells (fun W hW => by obtain ⟨z, rfl⟩ := hW; exact hcp.fr z.fr (fun h => h)) _ Try.underlying28 rfl (by kernel_rfl) ?_
      simp only [Act.put, List.setIfInBounds_toArray, List.set_cons_succ, List.set_cons_zero]
      refine wpMix_load_atw rfl 28 (.tmp 3) rfl w.heap.size 0 rfl p.cells (fun W hW => by obtain ⟨z, rfl⟩ := hW; exact Hc2.out.fr z.fr (fun h => h)) _ Try.underlying28 rfl (by kernel_rfl) ?_
      simp only [Act.put, List.setIfInBounds_toArray, List.set_cons_succ, List.set_cons_zero]
      refine wpMix_eqs rfl true 28 (.tmp 20) (.tmp 21) rfl n.p.cells.toArray p.cells.toArray rfl rfl true (by kernel_rfl) (fun w => by rw [prefix_equal, hd]) ?_
      rw [show (true ^^ true) = false from rfl]
      simp only [Act.put, List.setIfInBounds_toArray, List.set_cons_succ, List.set_cons_zero]
      repeat (first | (refine wpMix_skip rfl ?_; simp only [Act.put, List.setIfInBounds_toArray, List.set_cons_succ, List.set_cons_zero]) | (refine wpMix_calm rfl rfl (fun K hK => ?_); go_big_quiet_op; refine hK _ ?_; clear hK K))
      refine wpMix_nil ?_
      have cv := Hcv.out
      clear hd hcp
      go_wp2_with fail
      rw [HV.out]
      exact bodyPost_ret (results_2t Try.results31 _ _ (.int .i64 n.v) (.bool true) rfl rfl) rfl ⟨rfl, Hf2.out.drew⟩
    | false =>
      have HV := hide (show getV (getL es p) = .tuple #[.int .i64 0, .bool false] from by
        unfold getL
        rw [← Hes.out, Hlast.out]
        simp only
        rw [if_neg (show ¬ n.ent.p = p from of_decide_eq_false hd)]; rfl)
      go_upto_region 2 with (fail)
      refine wp_region_mix (fun W => ∃ z : Grow w2, W = z.v) (by kernel_rfl) (by kernel_rfl) (inGrow (Fr.refl _ _).drew) ?_
      iterate 10 (first | (refine wpMix_skip rfl ?_; simp only [Act.put, List.setIfInBounds_toArray, List.set_cons_succ, List.set_cons_zero]) | (refine wpMix_calm rfl rfl (fun K hK => ?_); go_big_quiet_op; refine hK _ ?_; clear hK K))
      refine wpMix_load_atw rfl 28 (.tmp 19) rfl gs (m * 6) (by go_simp) n.p.cells (fun W hW => by obtain ⟨z, rfl⟩ := hW; exact hcp.fr z.fr (fun h => h)) _ Try.underlying28 rfl (by kernel_rfl) ?_
      simp only [Act.put, List.setIfInBounds_toArray, List.set_cons_succ, List.set_cons_zero]
      refine wpMix_load_atw rfl 28 (.tmp 3) rfl w.heap.size 0 rfl p.cells (fun W hW => by obtain ⟨z, rfl⟩ := hW; exact Hc2.out.fr z.fr (fun h => h)) _ Try.underlying28 rfl (by kernel_rfl) ?_
      simp only [Act.put, List.setIfInBounds_toArray, List.set_cons_succ, List.set_cons_zero]
      refine wpMix_eqs rfl true 28 (.tmp 20) (.tmp 21) rfl n.p.cells.toArray p.cells.toArray rfl rfl false (by kernel_rfl) (fun w => by rw [prefix_equal, hd]) ?_
      rw [show (true ^^ false) = true from rfl]
      simp only [Act.put, List.setIfInBounds_toArray, List.set_cons_succ, List.set_cons_zero]
      repeat (first | (refine wpMix_skip rfl ?_; simp only [Act.put, List.setIfInBounds_toArray, List.set_cons_succ, List.set_cons_zero]) | (refine wpMix_calm rfl rfl (fun K hK => ?_); go_big_quiet_op; refine hK _ ?_; clear hK K))
      refine wpMix_nil ?_
      clear hd hcp
      go_wp2_with fail
      rw [HV.out]
      exact bodyPost_ret (results_2t Try.results31 _ _ (.int .i64 0) (.bool false) rfl rfl) rfl ⟨rfl, Hf2.out.drew⟩
theorem trie_get (w : World) (F : Nat → Prop) (g : Nat) (l : List EntM) (m : Nat) (h : Trie w F g l m) (p : PrefixM) (hp : p.wf) :
    Calls Try.prog 31 #[.pointer (some ⟨g, 0, none⟩), .agg p.cells.toArray] w fun e w' => e = .returned (getV (getE l p)) ∧ Fr noB w w' := by
  rw [getE_last h.sorted h.ok hp]
  exact get_from _ w p (pathX l p) (Nat.le_trans (pathX_len l p) h.le) (fun w1 hf => trie_pathX w1 F g l m (h.frN hf) p hp)
theorem trie_get_nil (w : World) (p : PrefixM) : Calls Try.prog 31 #[.pointer none, .agg p.cells.toArray] w fun e w' => e = .returned (getV none) ∧ Fr noB w w' :=
  get_from none w p [] (Nat.zero_le _) (fun w1 _ => trie_path_nil w1 p)
end Go.Proofs.Ytgjabgneapdbiaa
