/- The helper known of chapter 9's laws; the laws TrieHalves and TrieOfNothing, walked. -/
import Derived.Test.YtgjabgneapdbiaaTrieLong
namespace Go.Proofs.Ytgjabgneapdbiaa
open Go.RowKit Go.BigFrame
set_option linter.unusedSimpArgs false
set_option linter.unusedVariables false
attribute [local irreducible] wpMix wpAnyG

/-- A tree of the call's own: new blocks alone. -/
def MyTrie (w0 w : World) (g : Nat) (l : List EntM) (m : Nat) : Prop := ∃ F : Nat → Prop, Trie w F g l m ∧ (∀ b, F b → w0.heap.size ≤ b) ∧ Fr noB w0 w
theorem MyTrie.new {w0 w w' : World} {g : Nat} {l : List EntM} {m : Nat} (h0 : Fr noB w0 w) (h : Trie w' (newF w w') g l m) (hf : Fr noB w w') : MyTrie w0 w' g l m :=
  ⟨newF w w', h, fun b hb => by have := hb.1; have := h0.size; omega, h0.tr hf⟩
theorem MyTrie.step {w0 w w' : World} {F : Nat → Prop} {g : Nat} {l' : List EntM} {m' : Nat} {v : Value} {e : Ending} (h1 : ∀ b, F b → w0.heap.size ≤ b) (h2 : Fr noB w0 w) (h : TrieTo w F g l' m' v e w') : e = .returned v ∧ MyTrie w0 w' g l' m' := by
  obtain ⟨he, ht, hf⟩ := h
  refine ⟨he, gr F w w', ht, fun b hb => ?_, h2.trans hf (fun _ _ h => h) (fun b hb h => by have := h1 b h; omega)⟩
  rcases hb with hb | hb
  · exact h1 b hb
  · have := h2.size; omega
theorem MyTrie.fr {w0 w w' : World} {g m : Nat} {l : List EntM} (h : MyTrie w0 w g l m) (f : Fr noB w w') : MyTrie w0 w' g l m := by
  obtain ⟨F, h1, h2, h3⟩ := h
  exact ⟨F, h1.frN f, h2, h3.tr f⟩

def knP1 : PrefixM := ⟨167772160, 16⟩
def knP2 : PrefixM := ⟨167837696, 16⟩
theorem kn_ok1 : okP knP1 := by decide +kernel
theorem kn_ok2 : okP knP2 := by decide +kernel
theorem kn_list : putE (putE [] knP1 1) knP2 2 = [⟨knP1, 1⟩, ⟨knP2, 2⟩] := by decide +kernel
theorem kn_nodes : nodesN ([⟨knP1, 1⟩, ⟨knP2, 2⟩].map (fun x : EntM => x.p)) = 3 := by decide +kernel
theorem kn_long : longE [⟨knP1, 1⟩, ⟨knP2, 2⟩] 167837701 = some ⟨knP2, 2⟩ := by decide +kernel

set_option maxRecDepth 100000 in
set_option maxHeartbeats 2000000 in
theorem law_known (w : World) : Calls Try.prog 22 #[] w fun e w' => e = .returned (.bool true) ∧ Fr noB w w' := by
  go_enter Try.func22, Try.ntmps22
  go_wp2_with fail
  refine (trie_new _).mono ?_
  rintro e w1 ⟨g, rfl, ht1, hf1⟩
  have H1 := hide ht1; have Hf1 := hide hf1
  clear ht1 hf1
  go_wp2_with (refine wpList_build_as rfl 28 _ rfl knP1.cells.toArray (by kernel_rfl) ?_)
  refine (trie_set w1 _ g [] 1 H1.out (by decide) knP1 kn_ok1 1).mono ?_
  rintro e w2 h2
  obtain ⟨rfl, F2, ht2, hF2, hf2⟩ := MyTrie.step (w0 := w) (fun b hb => hb.1) Hf1.out h2
  have H2 := hide ht2; have Hf2 := hide hf2; have HF2 := hide hF2
  clear h2 ht2 hf2 hF2
  go_wp2_with (refine wpList_build_as rfl 28 _ rfl knP2.cells.toArray (by kernel_rfl) ?_)
  refine (trie_set w2 _ g _ 3 H2.out (by decide) knP2 kn_ok2 2).mono ?_
  rintro e w3 h3
  obtain ⟨rfl, F3, ht3, hF3, hf3⟩ := MyTrie.step HF2.out Hf2.out h3
  rw [kn_list] at ht3
  have H3 := hide ht3; have Hf3 := hide hf3
  clear h3 ht3 hf3 hF3
  go_wp2_with fail
  refine (trie_long w3 _ g _ _ H3.out 167837701 (by decide)).mono ?_
  rintro e w4 ⟨rfl, hf4⟩
  rw [kn_long]
  unfold longV
  have Hf4 := hide (Hf3.out.tr hf4); have H4 := hide (H3.out.frN hf4)
  clear hf4
  go_upto_region 7 with (refine wpList_store_new rfl 28 _ _ rfl _ _ knP2.cells _ rfl rfl (by simp) (by kernel_rfl) rfl (by kernel_rfl) ?_)
  refine wp_gen (fun W => Fr noB w4 W) ((Fr.refl _ _).alloc _) ?_
  intro w5 hf5
  have Hf5 := hide (Hf4.out.tr hf5); have H5 := hide (H4.out.frN hf5)
  clear hf5
  go_wp2_with fail
  refine (trie_nodes w5 _ g _ _ H5.out).mono ?_
  rintro e w6 ⟨rfl, hf6⟩
  rw [kn_nodes]
  have Hf6 := hide (Hf5.out.tr hf6)
  clear hf6
  go_wp2_with fail
  go_ret
  exact ⟨rfl, Hf6.out⟩

/-! ### TrieHalves -/
theorem two_nodes {t : T} (hg : Good t) {x y : EntM} (he : t.ents = [x, y]) (hx : x.p.len = 32) : t.ids.length = 3 := by
  cases t with
  | nil => simp [T.ents] at he
  | node i p v th l r =>
    have hk := good_kid hg
    obtain ⟨hp, h2, _, _, h5, h6⟩ := hg
    cases th with
    | true =>
      exfalso
      simp only [T.ents, if_true, List.singleton_append, List.cons.injEq] at he
      obtain ⟨e1, e2⟩ := he
      have hp32 : p.len = 32 := by have := congrArg (fun x : EntM => x.p.len) e1; simp only at this; omega
      have hy : y ∈ l.ents ++ r.ents := by rw [e2]; simp
      rcases List.mem_append.1 hy with h | h
      · have := (hk.1 _ (ents_pfxs h)).2.2; have := (good_ok h5 _ (ents_pfxs h)).bd; omega
      · have := (hk.2 _ (ents_pfxs h)).2.2; have := (good_ok h6 _ (ents_pfxs h)).bd; omega
    | false =>
      obtain ⟨nl, nr⟩ := h2 rfl
      have f1 := forks_lt h5 nl
      have f2 := forks_lt h6 nr
      have hl := congrArg List.length he
      simp only [T.ents, Bool.false_eq_true, if_false, List.nil_append, List.length_append, List.length_cons, List.length_nil] at hl
      have i1 := ids_length (t := l)
      have i2 := ids_length (t := r)
      simp only [T.ids, List.length_cons, List.length_append]
      omega
theorem one_nodes {t : T} (hg : Good t) {x : EntM} (he : t.ents = [x]) : t.ids.length = 1 := by
  rw [nodes_eq hg]
  unfold T.ps
  rw [he]; rfl
theorem halves_same (a : Nat) : putE (putE [] (addrP a) 1) (addrP a) 2 = [⟨addrP a, 2⟩] := by
  have h1 : putE [] (addrP a) 1 = [⟨addrP a, 1⟩] := rfl
  rw [h1]
  have hs : SortedE [⟨addrP a, 1⟩] := List.pairwise_singleton _ _
  refine eq_of_sorted (put_E_sorted hs _ _) (List.pairwise_singleton _ _) (fun x => ?_)
  rw [put_E_mem hs]
  simp only [List.mem_singleton]
  constructor
  · rintro (h | ⟨rfl, h⟩)
    · exact h
    · exact absurd rfl h
  · intro h; exact .inl h
theorem halves_two {a b : Nat} (hab : a ≠ b) : ∃ x y : EntM, putE (putE [] (addrP a) 1) (addrP b) 2 = [x, y] ∧ x.p.len = 32 := by
  have h1 : putE [] (addrP a) 1 = [⟨addrP a, 1⟩] := rfl
  rw [h1]
  have hs : SortedE [⟨addrP a, 1⟩] := List.pairwise_singleton _ _
  have hb : ∀ c d : Nat, c < d → befP (addrP c) (addrP d) := fun c d h => .inl h
  rcases Nat.lt_or_gt_of_ne hab with h | h
  · refine ⟨⟨addrP a, 1⟩, ⟨addrP b, 2⟩, ?_, rfl⟩
    refine eq_of_sorted (put_E_sorted hs _ _) (by unfold SortedE; simp only [List.pairwise_cons, List.mem_singleton, List.not_mem_nil, false_implies, implies_true, List.Pairwise.nil, and_true, forall_eq]; exact hb a b h) (fun x => ?_)
    rw [put_E_mem hs]
    simp only [List.mem_cons, List.not_mem_nil, or_false]
    constructor
    · rintro (h | ⟨h, _⟩); exact .inr h; exact .inl h
    · rintro (rfl | h)
      · exact .inr ⟨rfl, fun e => hab (congrArg PrefixM.addr e)⟩
      · exact .inl h
  · refine ⟨⟨addrP b, 2⟩, ⟨addrP a, 1⟩, ?_, rfl⟩
    refine eq_of_sorted (put_E_sorted hs _ _) (by unfold SortedE; simp only [List.pairwise_cons, List.mem_singleton, List.not_mem_nil, false_implies, implies_true, List.Pairwise.nil, and_true, forall_eq]; exact hb b a h) (fun x => ?_)
    rw [put_E_mem hs]
    simp only [List.mem_cons, List.not_mem_nil, or_false]
    constructor
    · rintro (h | ⟨h, _⟩); exact .inl h; exact .inr h
    · rintro (h | rfl)
      · exact .inl h
      · exact .inr ⟨rfl, fun e => hab (congrArg PrefixM.addr e)⟩
theorem halves_count {w : World} {F : Nat → Prop} {g m : Nat} {l : List EntM} (h : Trie w F g l m) {x y : EntM} (he : l = [x, y]) (hx : x.p.len = 32) : nodesN (l.map (·.p)) = 3 := by
  obtain ⟨t, N, fr, h1, h2, h3⟩ := h.nodes
  rw [← h3]; exact two_nodes h1.good (h2.trans he) hx

set_option maxRecDepth 100000 in
set_option maxHeartbeats 2000000 in
theorem law_halves (a b : Nat) (ha : a < 4294967296) (hb : b < 4294967296) (w : World) : Calls Try.prog 3 #[.int .u32 (a : Nat), .int .u32 (b : Nat)] w fun e w' => e = .returned (.bool true) ∧ Fr noB w w' := by
  go_enter Try.func3, Try.ntmps3
  go_wp2_with fail
  refine (trie_new _).mono ?_
  rintro e w1 ⟨g, rfl, ht1, hf1⟩
  have H1 := hide ht1; have Hf1 := hide hf1
  clear ht1 hf1
  go_wp2_with (refine wpList_build_as rfl 28 _ rfl (addrP a).cells.toArray (by kernel_rfl) ?_)
  refine (trie_set w1 _ g [] 1 H1.out (by decide) (addrP a) (addrP_ok ha) 1).mono ?_
  rintro e w2 h2
  obtain ⟨rfl, F2, ht2, hF2, hf2⟩ := MyTrie.step (w0 := w) (fun b hb => hb.1) Hf1.out h2
  have H2 := hide ht2; have Hf2 := hide hf2; have HF2 := hide hF2
  clear h2 ht2 hf2 hF2
  go_wp2_with (refine wpList_build_as rfl 28 _ rfl (addrP b).cells.toArray (by kernel_rfl) ?_)
  refine (trie_set w2 _ g _ 3 H2.out (by decide) (addrP b) (addrP_ok hb) 2).mono ?_
  rintro e w3 h3
  obtain ⟨rfl, F3, ht3, hF3, hf3⟩ := MyTrie.step HF2.out Hf2.out h3
  have H3 := hide ht3; have Hf3 := hide hf3
  clear h3 ht3 hf3 hF3
  by_cases hab : a = b
  · have hn := hide (show nodesN ((putE (putE [] (addrP a) 1) (addrP b) 2).map (·.p)) = 1 from by rw [← hab, halves_same]; rfl)
    have t1 : ((a : Int) == (b : Int)) = true := by simp [hab]
    clear hab
    go_upto_region 9 with (fail)
    clear t1
    go_wp2_with fail
    refine (trie_nodes w3 _ g _ _ H3.out).mono ?_
    rintro e w4 ⟨rfl, hf4⟩
    rw [hn.out]
    have Hf4 := hide (Hf3.out.tr hf4)
    clear hf4
    go_wp2_with fail
    refine (law_known w4).mono ?_
    rintro e w5 ⟨rfl, hf5⟩
    have Hf5 := hide (Hf4.out.tr hf5)
    clear hf5
    go_wp2_with fail
    go_ret
    exact ⟨rfl, Hf5.out⟩
  · have hn := hide (show nodesN ((putE (putE [] (addrP a) 1) (addrP b) 2).map (·.p)) = 3 from by
      obtain ⟨x, y, he, hx⟩ := halves_two hab
      exact halves_count H3.out he hx)
    have t1 : ((a : Int) == (b : Int)) = false := by simp only [beq_eq_false_iff_ne, ne_eq]; omega
    clear hab
    go_upto_region 9 with (fail)
    clear t1
    go_wp2_with fail
    refine (trie_nodes w3 _ g _ _ H3.out).mono ?_
    rintro e w4 ⟨rfl, hf4⟩
    rw [hn.out]
    have Hf4 := hide (Hf3.out.tr hf4)
    clear hf4
    go_wp2_with fail
    refine (law_known w4).mono ?_
    rintro e w5 ⟨rfl, hf5⟩
    have Hf5 := hide (Hf4.out.tr hf5)
    clear hf5
    go_wp2_with fail
    go_ret
    exact ⟨rfl, Hf5.out⟩

/-! ### TrieOfNothing -/
set_option maxRecDepth 100000 in
set_option maxHeartbeats 2000000 in
theorem law_nothing (p : PrefixM) (a : Nat) (w : World) : Calls Try.prog 11 #[.agg p.cells.toArray, .int .u32 (a : Nat)] w fun e w' => e = .returned (.bool true) ∧ Fr noB w w' := by
  go_enter Try.func11, Try.ntmps11
  go_upto_region 1 with (fail)
  refine wp_gen (fun W => CellsAt W w.heap.size 0 p.cells ∧ Fr noB w W) ⟨by (repeat (first | assumption | exact cells_new _ _ _ (by simp) | refine CellsAt.alloc ?_ _ | refine CellsAt.drew ?_ | refine CellsAt.drewN ?_ _)), (Fr.refl _ _).alloc _⟩ ?_
  rintro w1 ⟨hc, hf⟩
  have Hc := hide hc; have Hf := hide hf
  clear hf
  go_wp2_with (refine wpList_load_at rfl 28 _ rfl _ _ rfl (PrefixM.cells _) (by (repeat (first | assumption | exact cells_new _ _ _ (by simp) | refine CellsAt.alloc ?_ _ | refine CellsAt.drew ?_ | refine CellsAt.drewN ?_ _))) _ Try.underlying28 rfl (by kernel_rfl) ?_)
  refine (trie_get_nil w1 p).mono ?_
  rintro e w2 ⟨rfl, hf2⟩
  unfold getV
  have Hf2 := hide (Hf.out.tr hf2); have Hc2 := hide (Hc.out.fr hf2 (fun h => h))
  clear hf2 hc
  go_wp2_with fail
  refine (trie_long_nil w2 a).mono ?_
  rintro e w3 ⟨rfl, hf3⟩
  unfold longV
  have Hf3 := hide (Hf2.out.tr hf3); have Hc3 := hide (Hc2.out.fr hf3 (fun h => h))
  clear hf3
  go_upto_region 4 with (refine wpList_store_new rfl 28 _ _ rfl _ _ (PrefixM.mk 0 0).cells _ rfl rfl (by simp) (by kernel_rfl) rfl (by kernel_rfl) ?_)
  refine wp_gen (fun W => Fr noB w3 W) ((Fr.refl _ _).alloc _) ?_
  intro w4 hf4
  have Hf4 := hide (Hf3.out.tr hf4)
  have hc4 : CellsAt w4 w.heap.size 0 p.cells := Hc3.out.fr hf4 (fun h => h)
  have Hc4 := hide hc4
  clear hf4
  go_wp2_with (refine wpList_load_at rfl 28 _ rfl _ _ rfl (PrefixM.cells _) (by (repeat (first | assumption | exact cells_new _ _ _ (by simp) | refine CellsAt.alloc ?_ _ | refine CellsAt.drew ?_ | refine CellsAt.drewN ?_ _))) _ Try.underlying28 rfl (by kernel_rfl) ?_)
  refine (trie_set_nil w4 p 1).mono ?_
  rintro e w5 ⟨rfl, hf5⟩
  have Hf5 := hide (Hf4.out.tr hf5)
  have hc5 : CellsAt w5 w.heap.size 0 p.cells := Hc4.out.fr hf5 (fun h => h)
  have Hc5 := hide hc5
  clear hf5 hc4
  go_wp2_with (refine wpList_load_atw rfl 28 _ rfl _ _ rfl (PrefixM.cells _) (by (repeat (first | assumption | exact cells_new _ _ _ (by simp) | refine CellsAt.alloc ?_ _ | refine CellsAt.drew ?_ | refine CellsAt.drewN ?_ _))) _ Try.underlying28 rfl (by kernel_rfl) ?_)
  refine (trie_del_nil w5 p).mono ?_
  rintro e w6 ⟨rfl, hf6⟩
  have Hf6 := hide (Hf5.out.tr hf6)
  have hc6 : CellsAt w6 w.heap.size 0 p.cells := Hc5.out.fr hf6 (fun h => h)
  clear hf6 hc5
  go_wp2_with (refine wpList_load_atw rfl 28 _ rfl _ _ rfl (PrefixM.cells _) (by (repeat (first | assumption | exact cells_new _ _ _ (by simp) | refine CellsAt.alloc ?_ _ | refine CellsAt.drew ?_ | refine CellsAt.drewN ?_ _))) _ Try.underlying28 rfl (by kernel_rfl) ?_)
  refine (trie_covers_nil w6 p).mono ?_
  rintro e w7 ⟨⟨sa, sl, sc⟩, rfl, hn7, hf7⟩
  have h0 : sl = 0 := hn7.1.1
  subst h0
  have Hf7 := hide (Hf6.out.tr hf7)
  clear hn7 hf7 hc6
  go_wp2_with fail
  refine (trie_Walk_nil w7).mono ?_
  rintro e w8 ⟨⟨ta, tl, tc⟩, rfl, hn8, hf8⟩
  have h0 : tl = 0 := hn8.1.1
  subst h0
  have Hf8 := hide (Hf7.out.tr hf8)
  clear hn8 hf8
  go_wp2_with fail
  refine (trie_len_nil w8).mono ?_
  rintro e w9 ⟨rfl, rfl⟩
  go_wp2_with fail
  refine (trie_nodes_nil w9).mono ?_
  rintro e w10 ⟨rfl, rfl⟩
  go_wp2_with fail
  refine (law_known w10).mono ?_
  rintro e w11 ⟨rfl, hf11⟩
  have Hf11 := hide (Hf8.out.tr hf11)
  clear hf11
  go_wp2_with fail
  go_ret
  exact ⟨rfl, Hf11.out⟩
end Go.Proofs.Ytgjabgneapdbiaa
