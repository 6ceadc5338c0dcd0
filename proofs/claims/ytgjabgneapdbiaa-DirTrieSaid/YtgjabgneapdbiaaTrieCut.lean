/- trie.cut, Del. -/
import Derived.Test.YtgjabgneapdbiaaTrieShr
namespace Go.Proofs.Ytgjabgneapdbiaa
open Go.RowKit Go.BigFrame
set_option linter.unusedSimpArgs false
set_option linter.unusedVariables false
attribute [local irreducible] wpMix wpAnyG

def CutTo (w : World) (F : Nat → Prop) (g : Nat) (N : List NodeM) (fr : List Nat) (root many : Nat) (x : CutR) (ids : List Nat) (e : Ending) (w' : World) : Prop :=
  ∃ N', e = .returned (.tuple #[.int .i64 (x.t.id : Nat), .bool x.was]) ∧ TrieAt w' (gr F w w') g N' x.s.free root many ∧ N'.length = N.length ∧ RepT N' x.t ∧ (∀ i, i < N.length → i ∉ ids → N'[i]? = N[i]?) ∧ Fr F w w'
theorem results_2t {P : Program} {fn : Func} {p u : Tmp} (h : fn.results = #[.tmp p, .tmp u]) (tmps : Array Value) (w : World) (x y : Value) (hx : tmps.getD p undef = x) (hy : tmps.getD u undef = y) :
    (results fn tmps).run P w = .ok (.tuple #[x, y]) w := by
  subst hx; subst hy
  simp [results, h, Sem.run_bind]
theorem CutTo.same {w w' : World} {F : Nat → Prop} {g root many : Nat} {N : List NodeM} {fr : List Nat} {t : T} (h : TrieAt w F g N fr root many) (hr : RepT N t) (ids : List Nat) (n : Nat) (hw : Fr noB w w') : CutTo w F g N fr root many ⟨t, ⟨n, fr⟩, false⟩ ids (.returned (.tuple #[.int .i64 (t.id : Nat), .bool false])) w' :=
  ⟨N, rfl, (h.same hw).1, rfl, hr, fun _ _ _ => rfl, (h.same hw).2⟩
/-- What shrinks comes to. -/
def ShrTo (w : World) (F : Nat → Prop) (g : Nat) (N : List NodeM) (root many : Nat) (x : CutR) (e : Ending) (w' : World) : Prop := e = .returned (.int .i64 (x.t.id : Nat)) ∧ TrieAt w' (gr F w w') g N x.s.free root many ∧ Fr F w w'
theorem trie_shrinks (w : World) (F : Nat → Prop) (g : Nat) (N : List NodeM) (fr : List Nat) (root many : Nat) (h : TrieAt w F g N fr root many) (hfl : fr.length + 1 ≤ 1000000) (i : Nat) (p : PrefixM) (v : Int) (th : Bool) (l r : T) (hr : RepT N (.node i p v th l r)) (was : Bool) (n : Nat) :
    Calls Try.prog 78 #[.pointer (some ⟨g, 0, none⟩), .int .i64 (i : Nat)] w (ShrTo w F g N root many (shrT i p v th l r ⟨n, fr⟩ was)) := by
  obtain ⟨h0, hx, hl, hrr⟩ := hr
  have hb : ∀ t : T, RepT N t → t.id ≤ 1000000 := fun t ht => by
    cases hn : t.isNil with
    | true => rw [nil_of hn]; exact Nat.zero_le _
    | false => have := (ht.lt _ (id_mem hn)).2; have := h.len; omega
  have hz : ∀ t : T, RepT N t → (0 < t.id ↔ t.isNil = false) := fun t ht => by
    have := id_nil ht
    cases hn : t.isNil with
    | true => rw [hn] at this; simp at this; simp [this]
    | false => rw [hn] at this; simp at this; simp; omega
  by_cases hk : (th || (!l.isNil && !r.isNil)) = true
  · have hs : shrT i p v th l r ⟨n, fr⟩ was = ⟨.node i p v th l r, ⟨n, fr⟩, was⟩ := by unfold shrT; rw [if_pos hk]
    refine (shr_keep w F g N fr root many h i _ hx ?_).mono ?_
    · simp only [Bool.or_eq_true, Bool.and_eq_true, Bool.not_eq_true'] at hk
      rcases hk with hk | ⟨a, b⟩
      · exact .inl hk
      · exact .inr ⟨(hz l hl).2 a, (hz r hrr).2 b⟩
    · rintro e w' ⟨rfl, hf⟩
      rw [hs]
      exact ⟨rfl, (h.same hf).1, (h.same hf).2⟩
  · have hk' : th = false ∧ (l.isNil = true ∨ r.isNil = true) := by
      cases th <;> cases hl2 : l.isNil <;> cases hr2 : r.isNil <;> simp_all
    obtain ⟨rfl, hlr⟩ := hk'
    have hs : shrT i p v false l r ⟨n, fr⟩ was = ⟨if l.isNil then r else l, ⟨n, fr ++ [i]⟩, was⟩ := by unfold shrT; rw [if_neg hk]
    refine (shr_drop w F g N fr root many h hfl i _ hx rfl ?_ (hb l hl) (hb r hrr)).mono ?_
    · rcases hlr with a | a
      · left; exact (id_nil hl).2 a
      · right; exact (id_nil hrr).2 a
    · rintro e w' ⟨rfl, ht, hf⟩
      rw [hs]
      refine ⟨?_, ht, hf⟩
      simp only
      cases hn : l.isNil with
      | true => rw [if_pos rfl, (id_nil hl).2 hn, Nat.zero_add]
      | false =>
        have : r.isNil = true := by rcases hlr with a | a; rw [hn] at a; cases a; exact a
        rw [if_neg (by simp), (id_nil hrr).2 this, Nat.add_zero]

set_option maxRecDepth 100000 in
set_option maxHeartbeats 2000000 in
theorem cut_nil (w : World) (F : Nat → Prop) (g : Nat) (N : List NodeM) (fr : List Nat) (root many : Nat) (h : TrieAt w F g N fr root many) (p : PrefixM) :
    Calls Try.prog 59 #[.pointer (some ⟨g, 0, none⟩), .int .i64 ((0 : Nat) : Int), .agg p.cells.toArray] w (CutTo w F g N fr root many (cutT .nil p ⟨N.length, fr⟩) []) := by
  have H := hide h
  clear h
  go_enter Try.func59, Try.ntmps59
  go_upto_region 1 with (fail)
  refine wp_gen (fun W => Fr noB w W) ((Fr.refl _ _).alloc _) ?_
  intro w1 hf
  have Hf := hide hf
  clear hf
  refine wp_region_mix (fun W => ∃ z : Grow w1, W = z.v) (by kernel_rfl) (by kernel_rfl) (inGrow (Fr.refl _ _).drew) ?_
  repeat (first | (refine wpMix_skip rfl ?_; simp only [Act.put, List.setIfInBounds_toArray, List.set_cons_succ, List.set_cons_zero]) | (refine wpMix_calm rfl rfl (fun K hK => ?_); go_big_quiet_op; refine hK _ ?_; clear hK K))
  refine wpMix_nil ?_
  go_wp2_with fail
  exact bodyPost_ret (results_2t Try.results59 _ _ _ _ rfl rfl) rfl (CutTo.same H.out (t := .nil) trivial _ _ Hf.out.drew)

set_option maxRecDepth 100000 in
set_option maxHeartbeats 2000000 in
theorem cut_not (w : World) (F : Nat → Prop) (g : Nat) (N : List NodeM) (fr : List Nat) (root many : Nat) (h : TrieAt w F g N fr root many) (i : Nat) (q : PrefixM) (qv : Int) (th : Bool) (l r : T) (hr : RepT N (.node i q qv th l r)) (hq : okP q) (p : PrefixM) (hp : okP p) (hc : covB q p = false) :
    Calls Try.prog 59 #[.pointer (some ⟨g, 0, none⟩), .int .i64 (i : Nat), .agg p.cells.toArray] w (CutTo w F g N fr root many (cutT (.node i q qv th l r) p ⟨N.length, fr⟩) (T.node i q qv th l r).ids) := by
  have H := hide h; have Hr := hide hr; have Hq := hide hq; have Hp := hide hp; have Hc := hide hc
  have hgl := h.lt g h.here
  have hi0 := hr.1
  have HNi := hide hr.2.1
  have HX := hide (show cutT (.node i q qv th l r) p ⟨N.length, fr⟩ = ⟨.node i q qv th l r, ⟨N.length, fr⟩, false⟩ from by unfold cutT; rw [if_pos hc])
  clear h hr hq hp hc
  go_enter Try.func59, Try.ntmps59
  go_upto_region 1 with (fail)
  refine wp_gen (fun W => CellsAt W w.heap.size 0 p.cells ∧ Fr noB w W) ⟨by (repeat (first | assumption | exact cells_new _ _ _ (by simp) | refine CellsAt.alloc ?_ _ | refine CellsAt.drew ?_ | refine CellsAt.drewN ?_ _)), (Fr.refl _ _).alloc _⟩ ?_
  rintro w1 ⟨hcp, hf⟩
  have Hcp := hide hcp; have Hf := hide hf
  have H1 := hide (H.out.frN hf)
  obtain ⟨gn, nl, nc, hn⟩ := H1.out.node HNi.out
  have hin := hn.lt
  have hnlm := hn.nlm
  have hcq : CellsAt w1 gn (i * 6) q.cells := node_pfx hn.cells
  have hmul : ((i : Int) * 6).toNat = i * 6 := by omega
  have hz : ((i : Int) == 0) = false := by simp only [beq_eq_false_iff_ne, ne_eq]; omega
  have hg1 : ∀ z : Grow w1, z.v.cell? ⟨g, 0, none⟩ = some (.slice (some ⟨gn, 0, none⟩) nl nc) := fun z => Grow.cell hn.head z
  clear hn hf
  refine wp_region_mix (fun W => ∃ z : Grow w1, W = z.v) (by kernel_rfl) (by kernel_rfl) (inGrow (Fr.refl _ _).drew) ?_
  iterate 10 (first | (refine wpMix_skip rfl ?_; simp only [Act.put, List.setIfInBounds_toArray, List.set_cons_succ, List.set_cons_zero]) | (refine wpMix_calm rfl rfl (fun K hK => ?_); go_big_quiet_op; refine hK _ ?_; clear hK K))
  refine wpMix_load_atw rfl 28 (.tmp 21) rfl gn (i * 6) rfl q.cells (fun W hW => by obtain ⟨z, rfl⟩ := hW; exact hcq.fr z.fr (fun h => h)) _ Try.underlying28 rfl (by kernel_rfl) ?_
  simp only [Act.put, List.setIfInBounds_toArray, List.set_cons_succ, List.set_cons_zero]
  refine wpMix_load_atw rfl 28 (.tmp 5) rfl w.heap.size 0 rfl p.cells (fun W hW => by obtain ⟨z, rfl⟩ := hW; exact Hcp.out.fr z.fr (fun h => h)) _ Try.underlying28 rfl (by kernel_rfl) ?_
  simp only [Act.put, List.setIfInBounds_toArray, List.set_cons_succ, List.set_cons_zero]
  refine wpMix_spine rfl rfl (fun K hK => ?_); go_wp2_with fail
  refine (addr_Covers q p Hq.out.2 Hp.out.2 _).mono ?_
  rintro e w2 ⟨rfl, hf2⟩
  rw [Hc.out]
  have Hf2 := hide ((Fr.refl noB w1).drew.tr hf2)
  refine hK _ _ rfl (inGrow Hf2.out) ?_
  clear hK K hf2 hg1
  repeat (first | (refine wpMix_skip rfl ?_; simp only [Act.put, List.setIfInBounds_toArray, List.set_cons_succ, List.set_cons_zero]) | (refine wpMix_calm rfl rfl (fun K hK => ?_); go_big_quiet_op; refine hK _ ?_; clear hK K))
  refine wpMix_nil ?_
  clear hcp hcq
  go_wp2_with fail
  rw [HX.out]
  exact bodyPost_ret (results_2t Try.results59 _ _ _ _ rfl rfl) rfl (CutTo.same H.out (t := .node i q qv th l r) Hr.out _ _ (Hf.out.tr Hf2.out))
end Go.Proofs.Ytgjabgneapdbiaa
