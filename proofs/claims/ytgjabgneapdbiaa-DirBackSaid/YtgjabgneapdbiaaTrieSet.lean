/- trie.put as a whole; the table; Set. -/
import Derived.Test.YtgjabgneapdbiaaTriePut
import Derived.Test.YtgjabgneapdbiaaTriePutD
import Derived.Test.YtgjabgneapdbiaaTriePutE
import Derived.Test.YtgjabgneapdbiaaTriePutU
import Derived.Test.YtgjabgneapdbiaaTriePutF
import Derived.Test.YtgjabgneapdbiaaTriePutG
import Derived.Test.YtgjabgneapdbiaaTriePlain
namespace Go.Proofs.Ytgjabgneapdbiaa
open Go.RowKit Go.BigFrame
set_option linter.unusedSimpArgs false
set_option linter.unusedVariables false
attribute [local irreducible] wpMix wpAnyG

theorem trie_put (g : Nat) (p : PrefixM) (hp : okP p) (v : Int) : ∀ (t : T) (w : World) (F : Nat → Prop) (N : List NodeM) (fr : List Nat) (root many : Nat), TrieAt w F g N fr root many → RepT N t → Good t → AlOk N fr t.ids → 0 < N.length → N.length + 2 ≤ 1000000 → many + 2 ≤ 1000000 →
    Calls Try.prog 53 #[.pointer (some ⟨g, 0, none⟩), .int .i64 ((t.id : Nat) : Int), .agg p.cells.toArray, .int .i64 v] w (PutTo w F g N fr root many (putT t p v ⟨N.length, fr⟩) t.ids) := by
  intro t
  induction t with
  | nil => intro w F N fr root many h hr hg ha h0 hN hm; exact put_nil w F g N fr root many h ha h0 hN hm p v
  | node i q qv th l r ihl ihr =>
    intro w F N fr root many h hr hg ha h0 hN hm
    by_cases hc : comN p q = heldN q.len
    · by_cases hd : comN p q = heldN p.len
      · exact put_same w F g N fr root many h i q qv th l r hr hg ha hN hm p hp v hc hd
      · rcases halfB_lt p.addr (heldN q.len) with hk | hk
        · exact put_down0 w F g N fr root many h i q qv th l r hr hg ha hN hm p hp v hc hd hk ihl
        · exact put_down1 w F g N fr root many h i q qv th l r hr hg ha hN hm p hp v hc hd hk ihr
    · by_cases hd : comN p q = heldN p.len
      · rcases halfB_lt q.addr (heldN p.len) with hk | hk
        · exact put_up0 w F g N fr root many h i q qv th l r hr hg ha hN hm p hp v hc hd hk
        · exact put_up1 w F g N fr root many h i q qv th l r hr hg ha hN hm p hp v hc hd hk
      · rcases halfB_lt q.addr (comN p q) with hk | hk
        · exact put_fork0 w F g N fr root many h i q qv th l r hr hg ha hN hm p hp v hc hd hk
        · exact put_fork1 w F g N fr root many h i q qv th l r hr hg ha hN hm p hp v hc hd hk

/-- A tree, as it lies in memory, of at most so many nodes. -/
structure TrieR (w : World) (F : Nat → Prop) (g : Nat) (t : T) (N : List NodeM) (fr : List Nat) (m : Nat) : Prop where
  at_ : TrieAt w F g N fr t.id t.ents.length
  rep : RepT N t
  good : Good t
  al : AlOk N fr t.ids
  size : N.length = t.ids.length + fr.length + 1
  bd : N.length ≤ m
/-- .. of which only what is there is told. -/
def Trie (w : World) (F : Nat → Prop) (g : Nat) (l : List EntM) (m : Nat) : Prop := ∃ t N fr, TrieR w F g t N fr m ∧ t.ents = l
theorem TrieR.fr {w w' : World} {F S : Nat → Prop} {g m : Nat} {t : T} {N : List NodeM} {fr : List Nat} (h : TrieR w F g t N fr m) (f : Fr S w w') (hs : ∀ b, F b → ¬ S b) : TrieR w' F g t N fr m := ⟨h.at_.fr f hs, h.rep, h.good, h.al, h.size, h.bd⟩
theorem Trie.fr {w w' : World} {F S : Nat → Prop} {g m : Nat} {l : List EntM} (h : Trie w F g l m) (f : Fr S w w') (hs : ∀ b, F b → ¬ S b) : Trie w' F g l m := by
  obtain ⟨t, N, fr, h1, h2⟩ := h
  exact ⟨t, N, fr, h1.fr f hs, h2⟩
theorem Trie.frN {w w' : World} {F : Nat → Prop} {g m : Nat} {l : List EntM} (h : Trie w F g l m) (f : Fr noB w w') : Trie w' F g l m := h.fr f (fun _ _ h => h)
theorem Trie.lt {w : World} {F : Nat → Prop} {g m : Nat} {l : List EntM} (h : Trie w F g l m) : ∀ b, F b → b < w.heap.size := by
  obtain ⟨t, N, fr, h1, h2⟩ := h
  exact h1.at_.lt
theorem Trie.here {w : World} {F : Nat → Prop} {g m : Nat} {l : List EntM} (h : Trie w F g l m) : F g := by
  obtain ⟨t, N, fr, h1, h2⟩ := h
  exact h1.at_.here
theorem Trie.same {w w' : World} {F : Nat → Prop} {g m : Nat} {l : List EntM} (h : Trie w F g l m) (hw : Fr noB w w') : Trie w' (gr F w w') g l m ∧ Fr F w w' := by
  refine ⟨?_, hw.mono (fun _ _ h => h.elim)⟩
  obtain ⟨t, N, fr, h1, h2⟩ := h
  exact ⟨t, N, fr, ⟨(h1.at_.frN hw).grow hw.size h1.at_.lt, h1.rep, h1.good, h1.al, h1.size, h1.bd⟩, h2⟩
theorem Trie.up {w : World} {F : Nat → Prop} {g m m' : Nat} {l : List EntM} (h : Trie w F g l m) (hm : m ≤ m') : Trie w F g l m' := by
  obtain ⟨t, N, fr, h1, h2⟩ := h
  exact ⟨t, N, fr, ⟨h1.at_, h1.rep, h1.good, h1.al, h1.size, Nat.le_trans h1.bd hm⟩, h2⟩
theorem Trie.sorted {w : World} {F : Nat → Prop} {g m : Nat} {l : List EntM} (h : Trie w F g l m) : SortedE l := by
  obtain ⟨t, N, fr, h1, rfl⟩ := h
  exact good_sorted h1.good
theorem Trie.ok {w : World} {F : Nat → Prop} {g m : Nat} {l : List EntM} (h : Trie w F g l m) : ∀ x ∈ l, okP x.p := by
  obtain ⟨t, N, fr, h1, rfl⟩ := h
  exact fun x hx => good_ok h1.good _ (ents_pfxs hx)
theorem Trie.nodes {w : World} {F : Nat → Prop} {g m : Nat} {l : List EntM} (h : Trie w F g l m) : ∃ t N fr, TrieR w F g t N fr m ∧ t.ents = l ∧ t.ids.length = nodesN (l.map (·.p)) := by
  obtain ⟨t, N, fr, h1, rfl⟩ := h
  exact ⟨t, N, fr, h1, rfl, nodes_eq h1.good⟩
theorem Trie.le {w : World} {F : Nat → Prop} {g m : Nat} {l : List EntM} (h : Trie w F g l m) : l.length ≤ 1000000 := by
  obtain ⟨t, N, fr, h1, rfl⟩ := h
  exact h1.at_.blen.2
/-- A change of the tree alone. -/
def TrieTo (w : World) (F : Nat → Prop) (g : Nat) (l' : List EntM) (m : Nat) (v : Value) (e : Ending) (w' : World) : Prop := e = .returned v ∧ Trie w' (gr F w w') g l' m ∧ Fr F w w'

theorem put_ok {N : List NodeM} {fr : List Nat} {t : T} {p : PrefixM} {v : Int} (ha : AlOk N fr t.ids) (hr : RepT N t) (h0 : 0 < N.length) {N' : List NodeM} (hl : N'.length = (putT t p v ⟨N.length, fr⟩).s.n) :
    AlOk N' (putT t p v ⟨N.length, fr⟩).s.free (putT t p v ⟨N.length, fr⟩).t.ids ∧ (N.length = t.ids.length + fr.length + 1 → N'.length = (putT t p v ⟨N.length, fr⟩).t.ids.length + (putT t p v ⟨N.length, fr⟩).s.free.length + 1) := by
  have hp := put_perm p v t ⟨N.length, fr⟩
  have hn := put_n p v t ⟨N.length, fr⟩
  simp only at hp hn
  generalize putT t p v ⟨N.length, fr⟩ = X at *
  have hnew : ∀ j ∈ newIds ⟨N.length, fr⟩ X.s, N.length ≤ j ∧ j < X.s.n := fun j hj => by
    have := List.mem_range'_1.1 hj
    simp only at this
    omega
  have hnl : (newIds ⟨N.length, fr⟩ X.s).length = X.s.n - N.length := by simp [newIds]
  refine ⟨⟨?_, fun i hi => ?_⟩, fun hs => ?_⟩
  · refine hp.symm.nodup ?_
    rw [← List.append_assoc, List.nodup_append]
    refine ⟨ha.nodup, List.nodup_range', fun a h1 b h2 e => ?_⟩
    have h3 := (hnew b h2).1
    rcases List.mem_append.1 h1 with h4 | h4
    · have := (hr.lt a h4).2; omega
    · have := (ha.bd a h4).2; omega
  · have h1 : i ∈ t.ids ++ (fr ++ newIds ⟨N.length, fr⟩ X.s) := hp.subset (List.mem_append_right _ hi)
    rw [hl]
    rcases List.mem_append.1 h1 with h2 | h2
    · have := hr.lt i h2; omega
    · rcases List.mem_append.1 h2 with h2 | h2
      · have := ha.bd i h2; omega
      · have := hnew i h2; omega
  · have := hp.length_eq
    simp only [List.length_append, hnl] at this
    omega

set_option maxRecDepth 100000 in
set_option maxHeartbeats 2000000 in
theorem trie_set (w : World) (F : Nat → Prop) (g : Nat) (l : List EntM) (m : Nat) (h : Trie w F g l m) (hm : m + 2 ≤ 1000000) (p : PrefixM) (hp : okP p) (v : Int) :
    Calls Try.prog 20 #[.pointer (some ⟨g, 0, none⟩), .agg p.cells.toArray, .int .i64 v] w (TrieTo w F g (putE l p v) (m + 2) (.int .i64 0)) := by
  obtain ⟨t, N, fr, hR, rfl⟩ := h
  have HR := hide hR
  have hgl := hR.at_.lt g hR.at_.here
  clear hR
  go_enter Try.func20, Try.ntmps20
  go_upto_region 1 with (fail)
  refine wp_gen (fun W => CellsAt W w.heap.size 0 p.cells ∧ Fr noB w W ∧ w.heap.size < W.heap.size) ⟨by (repeat (first | assumption | exact cells_new _ _ _ (by simp) | refine CellsAt.alloc ?_ _ | refine CellsAt.drew ?_ | refine CellsAt.drewN ?_ _)), (Fr.refl _ _).alloc _, by simp⟩ ?_
  rintro w1 ⟨hc, hf, hw1⟩
  have Hc := hide hc; have Hf := hide hf; have Hp := hide hp
  clear hf hp
  go_wp2_with (refine wpList_load_atw rfl 28 _ rfl _ _ rfl (PrefixM.cells _) (by (repeat (first | assumption | exact cells_new _ _ _ (by simp) | refine CellsAt.alloc ?_ _ | refine CellsAt.drew ?_ | refine CellsAt.drewN ?_ _))) _ Try.underlying28 rfl (by kernel_rfl) ?_)
  refine (addr_Is p Hp.out.2 _).mono ?_
  rintro e w2 ⟨rfl, hf2⟩
  rw [decide_eq_true Hp.out.1]
  have Hf2 := hide (Hf.out.tr hf2); have Hc2 := hide (Hc.out.fr hf2 (fun h => h))
  clear hf2 hc hw1
  go_upto_region 3 with (fail)
  have H2 := hide (HR.out.at_.frN Hf2.out)
  have Hroot := hide H2.out.root_cell
  have hw2 : w.heap.size < w2.heap.size := block_of_cell (Hc2.out 0 _ rfl)
  have hr2 : ∀ z : Holds (fun W => CellsAt W w.heap.size 0 p.cells ∧ W.cell? ⟨g, 2, none⟩ = some (.int .i64 (t.id : Nat))), z.v.cell? ⟨g, 2, none⟩ = some (.int .i64 (t.id : Nat)) := fun z => z.has.2
  haveI : Nonempty (Holds (fun W => CellsAt W w.heap.size 0 p.cells ∧ W.cell? ⟨g, 2, none⟩ = some (.int .i64 (t.id : Nat)))) := ⟨⟨w2, Hc2.out, Hroot.out.1⟩⟩
  refine wp_region_mixT 11 (fun W => ∃ z : Holds (fun W => CellsAt W w.heap.size 0 p.cells ∧ W.cell? ⟨g, 2, none⟩ = some (.int .i64 (t.id : Nat))), W = z.v) (by kernel_rfl) (by kernel_rfl) ⟨⟨w2.drew, Hc2.out, Hroot.out.1⟩, rfl⟩ ?_
  simp only [List.take_succ_cons, List.take_zero, List.drop_succ_cons, List.drop_zero]
  iterate 6 (first | (refine wpMix_skip rfl ?_; simp only [Act.put, List.setIfInBounds_toArray, List.set_cons_succ, List.set_cons_zero]) | (refine wpMix_calm rfl rfl (fun K hK => ?_); go_big_quiet_op; refine hK _ ?_; clear hK K))
  refine wpMix_load_atw rfl 28 (.tmp 4) rfl w.heap.size 0 rfl p.cells (fun W hW => by obtain ⟨z, rfl⟩ := hW; exact z.has.1) _ Try.underlying28 rfl (by kernel_rfl) ?_
  simp only [Act.put, List.setIfInBounds_toArray, List.set_cons_succ, List.set_cons_zero]
  (first | (refine wpMix_skip rfl ?_; simp only [Act.put, List.setIfInBounds_toArray, List.set_cons_succ, List.set_cons_zero]) | (refine wpMix_calm rfl rfl (fun K hK => ?_); go_big_quiet_op; refine hK _ ?_; clear hK K))
  refine wpMix_spine rfl rfl (fun K hK => ?_); go_wp2_with fail
  refine (trie_put g p Hp.out v t w2.drew F N fr t.id t.ents.length (H2.out.frN (Fr.refl noB _).drew) HR.out.rep HR.out.good HR.out.al (by have := HR.out.size; omega) (by have := HR.out.bd; omega) (by have := HR.out.bd; have := HR.out.size; have := ids_length (t := t); omega)).mono ?_
  rintro e w3 ⟨N', rfl, ht3, hlen, hrep, _, hf3'⟩
  have hf3 : Fr F w2 w3 := (Fr.refl F w2).drew.tr hf3'
  have hc3 : CellsAt w3 w.heap.size 0 p.cells := Hc2.out.fr hf3 (fun hb => by have := HR.out.at_.lt _ hb; omega)
  refine hK _ _ rfl ⟨⟨w3, hc3, ht3.root_cell.1⟩, rfl⟩ ?_
  clear hK K hr2
  have Hrep := hide hrep; have Hlen := hide hlen; have Ht3 := hide ht3; have Hf3 := hide hf3
  obtain ⟨c2, _, z2', hg3⟩ := ht3.root_cell
  have z2 := z2' 2
  clear hrep hlen ht3 hf3 hf3' hc3 z2'
  generalize hX : putT t p v ⟨N.length, fr⟩ = X at *
  have HX := hide hX
  clear hX
  repeat (first | (refine wpMix_skip rfl ?_; simp only [Act.put, List.setIfInBounds_toArray, List.set_cons_succ, List.set_cons_zero]) | (refine wpMix_calm rfl rfl (fun K hK => ?_); go_big_quiet_op; refine hK _ ?_; clear hK K))
  refine wpMix_nil ?_
  go_wp2_with fail
  go_ret
  obtain ⟨k1, k2⟩ := put_ok (p := p) (v := v) HR.out.al HR.out.rep (by have := HR.out.size; omega) (N' := N') (by rw [HX.out]; exact Hlen.out)
  have hn := put_n p v t ⟨N.length, fr⟩
  have hgood := (good_put Hp.out v ⟨N.length, fr⟩ HR.out.good).1
  have hents := ents_put HR.out.good Hp.out v ⟨N.length, fr⟩
  have hcnt := put_length p v t ⟨N.length, fr⟩
  rw [HX.out] at k1 k2 hn hgood hents hcnt
  simp only at hn
  have hl := Hlen.out
  have hid : X.t.id ≤ 1000000 := by
    cases hX : X.t.isNil with
    | true => rw [nil_of hX]; exact Nat.zero_le _
    | false => have := (Hrep.out.lt _ (id_mem hX)).2; have := Ht3.out.len; omega
  have hset := Ht3.out.set_root (v := .int .i64 (X.t.id : Nat)) rfl hid
  have hs : Fr (oneB g) w3 (w3.setCell ⟨g, 2, none⟩ (.int .i64 (X.t.id : Nat))) := (Fr.refl (oneB g) _).setCell (p := ⟨g, 2, none⟩) (.inr rfl) _
  have hF : Fr F w (w3.setCell ⟨g, 2, none⟩ (.int .i64 (X.t.id : Nat))) := Fr.trans (Fr.trans Hf2.out Hf3.out (U := F) (fun _ _ h => h.elim) (fun _ _ h => h)) hs (fun _ _ h => h) (fun b _ e => by unfold oneB at e; subst e; exact HR.out.at_.here)
  refine ⟨rfl, ⟨X.t, N', X.s.free, ⟨?_, Hrep.out, hgood, k1, k2 HR.out.size, by have := HR.out.bd; omega⟩, hents⟩, hF⟩
  rw [hcnt]
  have h1 : w2.drew.heap.size = w2.heap.size := rfl
  refine hset.later' (fun b hb => ?_) HR.out.at_.lt hF.size
  have := Hf2.out.size; have := hs.size
  rcases hb with hb | hb
  · exact .inl hb
  · exact .inr (by omega)
end Go.Proofs.Ytgjabgneapdbiaa
