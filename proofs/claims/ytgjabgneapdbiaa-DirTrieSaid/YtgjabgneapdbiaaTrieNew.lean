/- trie.New, Len, Nodes; the list of all. -/
import Derived.Test.YtgjabgneapdbiaaTrieDel
import Derived.Laws.MakeOwn
namespace Go.Proofs.Ytgjabgneapdbiaa
open Go.RowKit Go.BigFrame
set_option linter.unusedSimpArgs false
set_option linter.unusedVariables false
attribute [local irreducible] wpMix wpAnyG

theorem make_one (w : World) (n c : Value) : (Instr.makeSlice 78 (.int .i64 1) (.int .i64 1)).run Try.prog w = .ok (.slice (some ⟨w.heap.size, 0, none⟩) 1 1) (w.alloc (.cells zeroN.cells.toArray 87)) := by
  kernel_rfl
/-- A new table. -/
def newF (w w' : World) : Nat → Prop := fun b => w.heap.size ≤ b ∧ b < w'.heap.size
set_option maxRecDepth 100000 in
set_option maxHeartbeats 1000000 in
theorem trie_new (w : World) : Calls Try.prog 19 #[] w fun e w' => ∃ g, e = .returned (.pointer (some ⟨g, 0, none⟩)) ∧ Trie w' (newF w w') g [] 1 ∧ Fr noB w w' := by
  have hmk := fun w : World => make_one w (.int .i64 1) (.int .i64 1)
  go_enter Try.func19, Try.ntmps19
  go_wp2_with fail
  go_ret
  have hb : Blk ((w.alloc (.cells zeroN.cells.toArray 87)).alloc (.cells #[.slice (some ⟨w.heap.size, 0, none⟩) 1 1, .slice none 0 0, .int .i64 0, .int .i64 0] 80)) (w.heap.size + 1) #[.slice (some ⟨w.heap.size, 0, none⟩) 1 1, .slice none 0 0, .int .i64 0, .int .i64 0] 80 := by
    have := Blk.alloc_new (w.alloc (.cells zeroN.cells.toArray 87)) #[.slice (some ⟨w.heap.size, 0, none⟩) 1 1, .slice none 0 0, .int .i64 0, .int .i64 0] 80
    rw [World.size_alloc] at this
    exact this
  have hn : Blk ((w.alloc (.cells zeroN.cells.toArray 87)).alloc (.cells #[.slice (some ⟨w.heap.size, 0, none⟩) 1 1, .slice none 0 0, .int .i64 0, .int .i64 0] 80)) w.heap.size zeroN.cells.toArray 87 := (Blk.alloc_new w _ _).fr ((Fr.refl noB _).alloc _) (fun h => h)
  refine ⟨w.heap.size + 1, rfl, ⟨.nil, [zeroN], [], ⟨⟨⟨⟨some ⟨w.heap.size, 0, none⟩, 1, 1⟩, ⟨none, 0, 0⟩, hb, ⟨rfl, .inr ⟨w.heap.size, [], rfl, hn, rfl, Nat.le_refl _, by unfold maxLen; simp only; omega⟩⟩, OwnL.nil _ _ _ _, ?_, ?_⟩, ?_, ?_, by decide, by decide, by decide⟩, trivial, trivial, ⟨by simp [T.ids], fun i hi => by simp at hi⟩, rfl, Nat.le_refl _⟩, rfl⟩, ((Fr.refl _ _).alloc _).alloc _⟩
  · rintro b ⟨a, ha, rfl⟩
    simp only [Option.some.injEq] at ha
    subst ha
    exact ⟨Nat.le_refl _, by simp; omega⟩
  · rintro b ⟨a, ha, _⟩; simp at ha
  · exact ⟨by omega, by simp⟩
  · intro b hb; exact hb.2

set_option maxHeartbeats 1000000 in
theorem trie_len (w : World) (F : Nat → Prop) (g : Nat) (l : List EntM) (m : Nat) (h : Trie w F g l m) : Calls Try.prog 25 #[.pointer (some ⟨g, 0, none⟩)] w fun e w' => e = .returned (.int .i64 (l.length : Nat)) ∧ w' = w := by
  obtain ⟨t, N, fr, hR, rfl⟩ := h
  obtain ⟨_, c3, _, _⟩ := hR.at_.root_cell
  clear hR
  go_enter Try.func25, Try.ntmps25
  go_wp2_with fail
  go_ret
  exact ⟨rfl, rfl⟩
theorem trie_len_nil (w : World) : Calls Try.prog 25 #[.pointer none] w fun e w' => e = .returned (.int .i64 0) ∧ w' = w := by
  go_enter Try.func25, Try.ntmps25
  go_wp2_with fail
  go_ret
  exact ⟨rfl, rfl⟩
theorem trie_nodes_nil (w : World) : Calls Try.prog 21 #[.pointer none] w fun e w' => e = .returned (.int .i64 0) ∧ w' = w := by
  go_enter Try.func21, Try.ntmps21
  go_wp2_with fail
  go_ret
  exact ⟨rfl, rfl⟩
set_option maxRecDepth 100000 in
set_option maxHeartbeats 1000000 in
theorem trie_nodes (w : World) (F : Nat → Prop) (g : Nat) (l : List EntM) (m : Nat) (h : Trie w F g l m) : Calls Try.prog 21 #[.pointer (some ⟨g, 0, none⟩)] w fun e w' => e = .returned (.int .i64 (nodesN (l.map (·.p)) : Nat)) ∧ Fr noB w w' := by
  obtain ⟨t, N, fr, hR, rfl, hn⟩ := h.nodes
  have hs := hR.size
  rw [hn] at hs
  obtain ⟨⟨⟨na, nl, nc⟩, ⟨fa, fl, fc⟩, hblk, hown, howf, _⟩, _, _, hlen, hflen, _⟩ := hR.at_
  have hnl : nl = N.length := hown.1
  have hfl : fl = fr.length := howf.1
  have HV := hide (show (nl : Int) - 1 - (fl : Int) = ((nodesN (t.ents.map (·.p)) : Nat) : Int) from by omega)
  have c0 : ∀ z : Grow w, z.v.cell? ⟨g, 0, none⟩ = some (.slice na nl nc) := fun z => Grow.cell (hblk.cell 0) z
  have c1 : ∀ z : Grow w, z.v.cell? ⟨g, 1, none⟩ = some (.slice fa fl fc) := fun z => Grow.cell (hblk.cell 1) z
  have hnl1 : nl ≤ 1000000 := by omega
  have hfl1 : fl ≤ 1000000 := by omega
  clear h hR hn hs hblk hown howf hnl hfl hlen hflen
  go_enter Try.func21, Try.ntmps21
  go_upto_region 3 with (fail)
  refine wp_region_mix (fun W => ∃ z : Grow w, W = z.v) (by kernel_rfl) (by kernel_rfl) (inGrow (Fr.refl _ _).drew) ?_
  repeat (first | (refine wpMix_skip rfl ?_; simp only [Act.put, List.setIfInBounds_toArray, List.set_cons_succ, List.set_cons_zero]) | (refine wpMix_calm rfl rfl (fun K hK => ?_); go_big_quiet_op; refine hK _ ?_; clear hK K))
  refine wpMix_nil ?_
  clear c0 c1
  go_wp2_with fail
  go_ret
  exact ⟨ret_int HV.out, (Fr.refl _ _).drew⟩

/-! ### walk -/
abbrev NewP (w0 w : World) (s : SlV) (xs : List PrefixM) : Prop := NewL w0 w 28 2 PrefixM.cells s xs
theorem PrefixM.mem (x : PrefixM) : ∀ u ∈ x.cells, u.oneCell' = true := by
  intro u hu
  simp only [PrefixM.cells, List.mem_cons, List.not_mem_nil, or_false] at hu
  rcases hu with rfl | rfl <;> rfl
theorem pfx_info : (Try.prog.info? 28).map (fun i => (i.zero, i.size, i.bytes)) = some (some (.agg (PrefixM.mk 0 0).cells.toArray), 2, 16) := by kernel_rfl
def WalkTo (w0 w : World) (s : SlV) (xs : List PrefixM) (e : Ending) (w' : World) : Prop := ∃ s' : SlV, e = .returned (.slice s'.a s'.len s'.cap) ∧ NewP w0 w' s' xs ∧ Fr noB w0 w' ∧ Fr (ownB s) w w' ∧ ∀ b, ownB s' b → ownB s b ∨ w.heap.size ≤ b

theorem walk_fr {s s1 : SlV} {w w4 w5 : World} (h1 : Fr (ownB s) w w4) (d1 : ∀ b, ownB s1 b → ownB s b ∨ w.heap.size ≤ b) (h2 : Fr (ownB s1) w4 w5) : Fr (ownB s) w w5 :=
  h1.trans h2 (fun _ _ h => h) (fun x hx h => by rcases d1 x h with h | h; exact h; omega)
theorem walk_own {s s1 s5 : SlV} {w w4 : World} (h : w.heap.size ≤ w4.heap.size) (d1 : ∀ b, ownB s1 b → ownB s b ∨ w.heap.size ≤ b) (d2 : ∀ b, ownB s5 b → ownB s1 b ∨ w4.heap.size ≤ b) : ∀ b, ownB s5 b → ownB s b ∨ w.heap.size ≤ b := fun b hb => by
  rcases d2 b hb with h1 | h1
  · exact d1 b h1
  · exact .inr (by omega)
set_option maxRecDepth 100000 in
set_option maxHeartbeats 4000000 in
theorem trie_walk (g : Nat) (w0 : World) (F : Nat → Prop) (hF : ∀ b, F b → b < w0.heap.size) : ∀ (t : T) (w : World) (N : List NodeM) (fr : List Nat) (root many : Nat) (s : SlV) (xs : List PrefixM), TrieAt w F g N fr root many → RepT N t → NewP w0 w s xs → Fr noB w0 w → xs.length + t.ps.length ≤ 1000000 →
    Calls Try.prog 58 #[.pointer (some ⟨g, 0, none⟩), .slice s.a s.len s.cap, .int .i64 (t.id : Nat)] w (WalkTo w0 w s (xs ++ t.ps)) := by
  intro t
  induction t with
  | nil =>
    intro w N fr root many s xs h hr hs h0 hlen
    have Hs := hide hs; have H0 := hide h0
    obtain ⟨sa, sl, sc⟩ := s
    clear h hr hs h0
    go_enter Try.func58, Try.ntmps58
    simp only [T.id]
    go_wp2_with fail
    go_ret
    refine ⟨⟨sa, sl, sc⟩, rfl, ?_, H0.out, Fr.refl _ _, fun b hb => .inl hb⟩
    have := Hs.out
    simpa [T.ps, T.ents] using this
  | node i p v th l r ihl ihr =>
    intro w N fr root many s xs h hr hs h0 hlen
    have Ihl := hide ihl; have Ihr := hide ihr
    have Hs := hide hs; have H0 := hide h0; have H := hide h; have Hr := hide hr; have HF := hide hF
    have hgl := h.lt g h.here
    have hi0 := hr.1
    obtain ⟨gn, nl, nc, hn⟩ := h.node hr.2.1
    have c0 := hn.head
    have hin := hn.lt
    have hnlm := hn.nlm
    have hcn := hn.cells
    have hmul : ((i : Int) * 6).toNat = i * 6 := by omega
    have hps : (T.node i p v th l r).ps.length = (if th then 1 else 0) + (l.ps.length + r.ps.length) := by rw [ps_app]; cases th <;> simp <;> omega
    rw [hps] at hlen
    obtain ⟨sa, sl, sc⟩ := s
    have hsl : sl = xs.length := hs.1.1
    have Hsl := hide hsl
    have hslm : sl ≤ 1000000 := by omega
    have hw00 := h0.size
    clear ihl ihr h hr hs h0 hn hF hps hsl
    show Calls _ _ #[.pointer (some ⟨g, 0, none⟩), .slice sa sl sc, .int .i64 (i : Nat)] w _
    go_enter Try.func58, Try.ntmps58
    go_upto_region 4 with (first | (refine wpList_load_at rfl 87 _ rfl _ _ rfl (NodeM.cells _) (by (repeat (first | assumption | exact cells_new _ _ _ (by simp) | refine CellsAt.alloc ?_ _ | refine CellsAt.drew ?_ | refine CellsAt.drewN ?_ _))) _ Try.underlying87 rfl (by kernel_rfl) ?_) | (refine wpList_store_new rfl 87 _ _ rfl _ _ (NodeM.mk p v th l.id r.id).cells _ rfl rfl (by simp) (by kernel_rfl) rfl (by kernel_rfl) ?_))
    refine wp_gen (fun W => CellsAt W w.heap.size 0 (NodeM.mk p v th l.id r.id).cells ∧ Fr noB w W) ⟨cells_new _ _ _ rfl, (Fr.refl _ _).alloc _⟩ ?_
    rintro w1 ⟨hcn1, hf1⟩
    have Hcn1 := hide hcn1; have Hf1 := hide hf1
    obtain ⟨_, _, _, d3, _, _⟩ := node_now hcn1
    have hcp := node_pfx hcn1
    have Hw1 := hide hf1.size
    rw [Nat.zero_add] at d3
    clear hcn c0 hin hnlm hcn1 hf1
    cases th with
    | false =>
      go_upto_region 6 with (fail)
      have Hn4 : Hid (NewP w0 w1 ⟨sa, sl, sc⟩ xs) := hide (Hs.out.fr Hf1.out)
      have Hf4 := hide (H0.out.tr Hf1.out)
      have Hff := hide (show Fr (ownB ⟨sa, sl, sc⟩) w w1 from Hf1.out.mono (fun _ _ h => h.elim))
      have Hd := hide (show ∀ b, ownB ⟨sa, sl, sc⟩ b → ownB ⟨sa, sl, sc⟩ b ∨ w.heap.size ≤ b from fun b hb => .inl hb)
      have Hloc := hide (show ¬ ownB ⟨sa, sl, sc⟩ w.heap.size from fun hb => by have := Hs.out.1.lt _ hb; omega)
      have Hc4 := hide Hcn1.out
      have H4 := hide (H.out.fr Hff.out (fun b hb hs => by have := HF.out b hb; have := Hs.out.2 b hs; omega))
      have hl4 : ∀ z : Holds (fun W => CellsAt W w.heap.size 0 (NodeM.mk p v false l.id r.id).cells), z.v.cell? ⟨w.heap.size, 4, none⟩ = some (.int .i64 (l.id : Nat)) := fun z => by have h := z.has 4 _ rfl; rwa [Nat.zero_add] at h
      have hr4 : ∀ z : Holds (fun W => CellsAt W w.heap.size 0 (NodeM.mk p v false l.id r.id).cells), z.v.cell? ⟨w.heap.size, 5, none⟩ = some (.int .i64 (r.id : Nat)) := fun z => by have h := z.has 5 _ rfl; rwa [Nat.zero_add] at h
      haveI : Nonempty (Holds (fun W => CellsAt W w.heap.size 0 (NodeM.mk p v false l.id r.id).cells)) := ⟨⟨w1, Hc4.out⟩⟩
      clear d3 hcp
      refine wp_region_mix (fun W => ∃ z : Holds (fun W => CellsAt W w.heap.size 0 (NodeM.mk p v false l.id r.id).cells), W = z.v) (by kernel_rfl) (by kernel_rfl) ⟨⟨w1.drew, Hc4.out⟩, rfl⟩ ?_
      iterate 6 (first | (refine wpMix_skip rfl ?_; simp only [Act.put, List.setIfInBounds_toArray, List.set_cons_succ, List.set_cons_zero]) | (refine wpMix_calm rfl rfl (fun K hK => ?_); go_big_quiet_op; refine hK _ ?_; clear hK K))
      refine wpMix_spine rfl rfl (fun K hK => ?_); go_wp2_with fail
      refine (Ihl.out w1.drew N fr root many ⟨sa, sl, sc⟩ xs (H4.out.frN (Fr.refl noB _).drew) Hr.out.2.2.1 (Hn4.out.fr (Fr.refl noB _).drew) Hf4.out.drew (by simp at hlen ⊢ <;> omega)).mono ?_
      rintro e w5 ⟨⟨s5a, s5l, s5c⟩, rfl, hn5, hf05, hf5', hd5⟩
      have hf5 : Fr (ownB ⟨sa, sl, sc⟩) w1 w5 := (Fr.refl (ownB ⟨sa, sl, sc⟩) w1).drew.tr hf5'
      have Hn5 := hide hn5; have Hf05 := hide hf05
      have Hff5 := hide (walk_fr Hff.out Hd.out hf5)
      have Hd5 := hide (walk_own Hff.out.size Hd.out hd5)
      have hws : w1.heap.size ≤ w5.heap.size := hf5.size
      have Hloc5 := hide (show ¬ ownB ⟨s5a, s5l, s5c⟩ w.heap.size from fun hb => by rcases hd5 _ hb with h | h; exact Hloc.out h; have h1 : w1.drew.heap.size = w1.heap.size := rfl; have h2 : w.heap.size < _ := block_of_cell (Hc4.out 0 _ rfl); omega)
      have Hc5 := hide (Hc4.out.fr hf5 Hloc.out)
      refine hK _ _ rfl ⟨⟨w5, Hc5.out⟩, rfl⟩ ?_
      clear hK K hn5 hf05 hf5 hf5' hd5
      iterate 3 (first | (refine wpMix_skip rfl ?_; simp only [Act.put, List.setIfInBounds_toArray, List.set_cons_succ, List.set_cons_zero]) | (refine wpMix_calm rfl rfl (fun K hK => ?_); go_big_quiet_op; refine hK _ ?_; clear hK K))
      refine wpMix_spine rfl rfl (fun K hK => ?_); go_wp2_with fail
      refine (Ihr.out w5 N fr root many ⟨s5a, s5l, s5c⟩ (xs ++ l.ps) (H.out.fr Hff5.out (fun b hb hs => by have := HF.out b hb; have := Hs.out.2 b hs; omega)) Hr.out.2.2.2 Hn5.out Hf05.out (by simp at hlen ⊢ <;> omega)).mono ?_
      rintro e w6 ⟨⟨s6a, s6l, s6c⟩, rfl, hn6, hf06, hf6, hd6⟩
      have Hn6 := hide hn6; have Hf06 := hide hf06
      have Hff6 := hide (walk_fr Hff5.out Hd5.out hf6)
      have Hd6 := hide (walk_own Hff5.out.size Hd5.out (w4 := w5) hd6)
      refine hK _ _ rfl ⟨⟨w6, Hc5.out.fr hf6 Hloc5.out⟩, rfl⟩ ?_
      clear hK K hn6 hf06 hf6 hd6 hl4 hr4
      repeat (first | (refine wpMix_skip rfl ?_; simp only [Act.put, List.setIfInBounds_toArray, List.set_cons_succ, List.set_cons_zero]) | (refine wpMix_calm rfl rfl (fun K hK => ?_); go_big_quiet_op; refine hK _ ?_; clear hK K))
      refine wpMix_nil ?_
      go_wp2_with fail
      go_ret
      refine ⟨⟨s6a, s6l, s6c⟩, rfl, ?_, Hf06.out, Hff6.out, Hd6.out⟩
      have h6 := Hn6.out
      rw [ps_app]
      simpa [List.append_assoc] using h6
    | true =>
      go_upto_region 6 with (first | (refine wpList_load_at rfl 28 (.tmp 21) rfl w.heap.size 0 rfl p.cells hcp _ Try.underlying28 rfl (by kernel_rfl) ?_) | (refine wpList_buildSlice rfl 41 1 _ rfl #[(0, .agg p.cells.toArray)] (by kernel_rfl) Try.underlying41 (.agg (PrefixM.mk 0 0).cells.toArray) 2 (by kernel_rfl) p.cells.toArray (by decide) (by decide) (by kernel_rfl) ?_) | (refine wpList_append_newD (w0 := w0) (N := 2) (cells := PrefixM.cells) (xs := xs) (s := ⟨sa, sl, sc⟩) (q := ⟨some ⟨w1.heap.size, 0, none⟩, 1, 1⟩) (ys := [p]) (ok := fun _ => True) rfl (.tmp 20) (.tmp 23) 41 rfl Try.underlying41 _ 16 pfx_info (by kernel_rfl) (by decide) PrefixM.length PrefixM.mem rfl (Hs.out.fr ((Hf1.out).alloc _)) ((H0.out.tr Hf1.out).alloc _) rfl (slof_one PrefixM.length _ trivial) (fun h => by cases h) (by simp [maxLen] <;> omega) (by simp <;> omega) ?_; intro s4 w4 hn4 hf4 hf4' hd4; have Hn4 := hide hn4; have Hf4 := hide hf4; have Hf4' := hide hf4'; have Hd4 := hide hd4; clear hn4 hf4 hf4' hd4))
      have Hff := hide (show Fr (ownB ⟨sa, sl, sc⟩) w w4 from Fr.trans (Hf1.out.alloc _) Hf4'.out (fun _ _ h => h.elim) (fun _ _ h => h))
      have hsz1 : w.heap.size < w1.heap.size := block_of_cell (Hcn1.out 0 _ rfl)
      have Hd := hide (show ∀ b, ownB s4 b → ownB ⟨sa, sl, sc⟩ b ∨ w.heap.size ≤ b from fun b hb => by rcases Hd4.out b hb with h | h; exact .inl h; exact .inr (by simp only [World.size_alloc] at h; omega))
      have Hloc := hide (show ¬ ownB s4 w.heap.size from fun hb => by rcases Hd4.out _ hb with h | h; have := Hs.out.1.lt _ h; omega; simp only [World.size_alloc] at h; omega)
      have Hc4 := hide ((Hcn1.out.alloc (.cells p.cells.toArray 28)).fr Hf4'.out (fun hb => by have := Hs.out.1.lt _ hb; omega))
      obtain ⟨s4a, s4l, s4c⟩ := s4
      have H4 := hide (H.out.fr Hff.out (fun b hb hs => by have := HF.out b hb; have := Hs.out.2 b hs; omega))
      have hl4 : ∀ z : Holds (fun W => CellsAt W w.heap.size 0 (NodeM.mk p v true l.id r.id).cells), z.v.cell? ⟨w.heap.size, 4, none⟩ = some (.int .i64 (l.id : Nat)) := fun z => by have h := z.has 4 _ rfl; rwa [Nat.zero_add] at h
      have hr4 : ∀ z : Holds (fun W => CellsAt W w.heap.size 0 (NodeM.mk p v true l.id r.id).cells), z.v.cell? ⟨w.heap.size, 5, none⟩ = some (.int .i64 (r.id : Nat)) := fun z => by have h := z.has 5 _ rfl; rwa [Nat.zero_add] at h
      haveI : Nonempty (Holds (fun W => CellsAt W w.heap.size 0 (NodeM.mk p v true l.id r.id).cells)) := ⟨⟨w4, Hc4.out⟩⟩
      clear d3 hcp
      refine wp_region_mix (fun W => ∃ z : Holds (fun W => CellsAt W w.heap.size 0 (NodeM.mk p v true l.id r.id).cells), W = z.v) (by kernel_rfl) (by kernel_rfl) ⟨⟨w4.drew, Hc4.out⟩, rfl⟩ ?_
      iterate 6 (first | (refine wpMix_skip rfl ?_; simp only [Act.put, List.setIfInBounds_toArray, List.set_cons_succ, List.set_cons_zero]) | (refine wpMix_calm rfl rfl (fun K hK => ?_); go_big_quiet_op; refine hK _ ?_; clear hK K))
      refine wpMix_spine rfl rfl (fun K hK => ?_); go_wp2_with fail
      refine (Ihl.out w4.drew N fr root many ⟨s4a, s4l, s4c⟩ (xs ++ [p]) (H4.out.frN (Fr.refl noB _).drew) Hr.out.2.2.1 (Hn4.out.fr (Fr.refl noB _).drew) Hf4.out.drew (by simp at hlen ⊢ <;> omega)).mono ?_
      rintro e w5 ⟨⟨s5a, s5l, s5c⟩, rfl, hn5, hf05, hf5', hd5⟩
      have hf5 : Fr (ownB ⟨s4a, s4l, s4c⟩) w4 w5 := (Fr.refl (ownB ⟨s4a, s4l, s4c⟩) w4).drew.tr hf5'
      have Hn5 := hide hn5; have Hf05 := hide hf05
      have Hff5 := hide (walk_fr Hff.out Hd.out hf5)
      have Hd5 := hide (walk_own Hff.out.size Hd.out hd5)
      have hws : w4.heap.size ≤ w5.heap.size := hf5.size
      have Hloc5 := hide (show ¬ ownB ⟨s5a, s5l, s5c⟩ w.heap.size from fun hb => by rcases hd5 _ hb with h | h; exact Hloc.out h; have h1 : w4.drew.heap.size = w4.heap.size := rfl; have h2 : w.heap.size < _ := block_of_cell (Hc4.out 0 _ rfl); omega)
      have Hc5 := hide (Hc4.out.fr hf5 Hloc.out)
      refine hK _ _ rfl ⟨⟨w5, Hc5.out⟩, rfl⟩ ?_
      clear hK K hn5 hf05 hf5 hf5' hd5
      iterate 3 (first | (refine wpMix_skip rfl ?_; simp only [Act.put, List.setIfInBounds_toArray, List.set_cons_succ, List.set_cons_zero]) | (refine wpMix_calm rfl rfl (fun K hK => ?_); go_big_quiet_op; refine hK _ ?_; clear hK K))
      refine wpMix_spine rfl rfl (fun K hK => ?_); go_wp2_with fail
      refine (Ihr.out w5 N fr root many ⟨s5a, s5l, s5c⟩ ((xs ++ [p]) ++ l.ps) (H.out.fr Hff5.out (fun b hb hs => by have := HF.out b hb; have := Hs.out.2 b hs; omega)) Hr.out.2.2.2 Hn5.out Hf05.out (by simp at hlen ⊢ <;> omega)).mono ?_
      rintro e w6 ⟨⟨s6a, s6l, s6c⟩, rfl, hn6, hf06, hf6, hd6⟩
      have Hn6 := hide hn6; have Hf06 := hide hf06
      have Hff6 := hide (walk_fr Hff5.out Hd5.out hf6)
      have Hd6 := hide (walk_own Hff5.out.size Hd5.out (w4 := w5) hd6)
      refine hK _ _ rfl ⟨⟨w6, Hc5.out.fr hf6 Hloc5.out⟩, rfl⟩ ?_
      clear hK K hn6 hf06 hf6 hd6 hl4 hr4
      repeat (first | (refine wpMix_skip rfl ?_; simp only [Act.put, List.setIfInBounds_toArray, List.set_cons_succ, List.set_cons_zero]) | (refine wpMix_calm rfl rfl (fun K hK => ?_); go_big_quiet_op; refine hK _ ?_; clear hK K))
      refine wpMix_nil ?_
      go_wp2_with fail
      go_ret
      refine ⟨⟨s6a, s6l, s6c⟩, rfl, ?_, Hf06.out, Hff6.out, Hd6.out⟩
      have h6 := Hn6.out
      rw [ps_app]
      simpa [List.append_assoc] using h6
end Go.Proofs.Ytgjabgneapdbiaa
