/- trie.shrinks. -/
import Derived.Test.YtgjabgneapdbiaaTrieSet
namespace Go.Proofs.Ytgjabgneapdbiaa
open Go.RowKit Go.BigFrame
set_option linter.unusedSimpArgs false
set_option linter.unusedVariables false
attribute [local irreducible] wpMix wpAnyG

theorem node_now {w : World} {b o : Nat} {x : NodeM} (h : CellsAt w b o x.cells) : w.cell? ⟨b, o, none⟩ = some (.int .u32 (x.p.addr : Nat)) ∧ w.cell? ⟨b, o + 1, none⟩ = some (.int .i64 x.p.len) ∧ w.cell? ⟨b, o + 2, none⟩ = some (.int .i64 x.v) ∧ w.cell? ⟨b, o + 3, none⟩ = some (.bool x.th) ∧
    w.cell? ⟨b, o + 4, none⟩ = some (.int .i64 (x.l : Nat)) ∧ w.cell? ⟨b, o + 5, none⟩ = some (.int .i64 (x.r : Nat)) := ⟨h 0 _ rfl, h 1 _ rfl, h 2 _ rfl, h 3 _ rfl, h 4 _ rfl, h 5 _ rfl⟩

set_option maxRecDepth 100000 in
set_option maxHeartbeats 2000000 in
theorem shr_keep (w : World) (F : Nat → Prop) (g : Nat) (N : List NodeM) (fr : List Nat) (root many : Nat) (h : TrieAt w F g N fr root many) (i : Nat) (x : NodeM) (hx : N[i]? = some x) (hk : x.th = true ∨ (0 < x.l ∧ 0 < x.r)) :
    Calls Try.prog 78 #[.pointer (some ⟨g, 0, none⟩), .int .i64 (i : Nat)] w fun e w' => e = .returned (.int .i64 (i : Nat)) ∧ Fr noB w w' := by
  have hgl := h.lt g h.here
  obtain ⟨gn, nl, nc, hn⟩ := h.node hx
  have c0 := hn.head
  have hin := hn.lt
  have hnlm := hn.nlm
  have hcx := hn.cells
  have hmul : ((i : Int) * 6).toNat = i * 6 := by omega
  obtain ⟨p, v, th, l, r⟩ := x
  have Hk := hide hk
  clear h hn hx hk
  go_enter Try.func78, Try.ntmps78
  go_upto_region 2 with (first | (refine wpList_load_at rfl 87 _ rfl _ _ rfl (NodeM.cells _) (by (repeat (first | assumption | exact cells_new _ _ _ (by simp) | refine CellsAt.alloc ?_ _ | refine CellsAt.drew ?_ | refine CellsAt.drewN ?_ _))) _ Try.underlying87 rfl (by kernel_rfl) ?_) | (refine wpList_store_new rfl 87 _ _ rfl _ _ (NodeM.mk p v th l r).cells _ rfl rfl (by simp) (by kernel_rfl) rfl (by kernel_rfl) ?_))
  refine wp_gen (fun W => CellsAt W w.heap.size 0 (NodeM.mk p v th l r).cells ∧ Fr noB w W) ⟨by (repeat (first | assumption | exact cells_new _ _ _ (by simp) | refine CellsAt.alloc ?_ _ | refine CellsAt.drew ?_ | refine CellsAt.drewN ?_ _)), (Fr.refl _ _).alloc _⟩ ?_
  rintro w1 ⟨hc1, hf1⟩
  obtain ⟨_, _, _, d3, d4, d5⟩ := node_now hc1
  simp only [Nat.zero_add] at d3 d4 d5
  have Hf1 := hide hf1
  clear hc1 hf1 c0 hin hcx
  have hk := Hk.out
  simp only at hk
  cases th with
  | true =>
    clear hk
    go_wp2_with fail
    go_ret
    exact ⟨rfl, Hf1.out⟩
  | false =>
    have hk2 : 0 < l ∧ 0 < r := by simpa using hk
    have gl : ((l : Int) != 0) = true := by simp only [bne_iff_ne, ne_eq]; omega
    have grr : ((r : Int) != 0) = true := by simp only [bne_iff_ne, ne_eq]; omega
    clear hk hk2
    go_wp2_with fail
    go_ret
    exact ⟨rfl, Hf1.out⟩

theorem shr_fr {S : Nat → Prop} {w w' : World} {o : Obj} (h : Fr S (w.alloc o) w') : Fr S w w' := ((Fr.refl S w).alloc o).tr h
theorem shr_head {w w' : World} {g : Nat} {a b c d : Value} {s : SlV} {fr : List Nat} (hb : Blk w g #[a, b, c, d] 80) (ho : OwnI w s fr) (hf : Fr (ownB s) w w') : w'.cell? ⟨g, 1, none⟩ = some b ∧ w'.frozen? ⟨g, 1, none⟩ = false ∧ g < w'.heap.size := by
  have h := hb.fr hf (own_ne_blk hb ho (by decide))
  exact ⟨h.cell 1, h.free 1, h.lt⟩
theorem shr_or {w w' : World} {o : Obj} {s s2 : SlV} (hor : (s2.a = s.a ∧ w'.heap.size = (w.alloc o).heap.size) ∨ (∃ g', s2.a = some ⟨g', 0, none⟩ ∧ (w.alloc o).heap.size ≤ g' ∧ Fr noB (w.alloc o) w')) : ∀ b, ownB s2 b → ownB s b ∨ w.heap.size ≤ b := by
  rintro b ⟨x, hx, rfl⟩
  rcases hor with ⟨e1, _⟩ | ⟨g', e1, hg, _⟩
  · exact .inl ⟨x, by rw [← e1]; exact hx, rfl⟩
  · rw [e1] at hx
    simp only [Option.some.injEq] at hx
    subst hx
    simp only [World.size_alloc] at hg
    exact .inr (by simp only; omega)
set_option maxRecDepth 100000 in
set_option maxHeartbeats 2000000 in
theorem shr_drop (w : World) (F : Nat → Prop) (g : Nat) (N : List NodeM) (fr : List Nat) (root many : Nat) (h : TrieAt w F g N fr root many) (hfl : fr.length + 1 ≤ 1000000) (i : Nat) (x : NodeM) (hx : N[i]? = some x) (ht : x.th = false) (hk : x.l = 0 ∨ x.r = 0) (hl : x.l ≤ 1000000) (hr : x.r ≤ 1000000) :
    Calls Try.prog 78 #[.pointer (some ⟨g, 0, none⟩), .int .i64 (i : Nat)] w fun e w' => e = .returned (.int .i64 ((x.l + x.r : Nat) : Int)) ∧ TrieAt w' (gr F w w') g N (fr ++ [i]) root many ∧ Fr F w w' := by
  have H := hide h
  have hgl := h.lt g h.here
  obtain ⟨gn, nl, nc, hn⟩ := h.node hx
  have c0 := hn.head
  have hin := hn.lt
  have hnlm := hn.nlm
  have hcx := hn.cells
  have hmul : ((i : Int) * 6).toNat = i * 6 := by omega
  obtain ⟨p, v, th, l, r⟩ := x
  simp only at ht hl hr hk
  subst ht
  have Hk := hide hk
  clear h hn hx hk
  go_enter Try.func78, Try.ntmps78
  go_upto_region 2 with (first | (refine wpList_load_at rfl 87 _ rfl _ _ rfl (NodeM.cells _) (by (repeat (first | assumption | exact cells_new _ _ _ (by simp) | refine CellsAt.alloc ?_ _ | refine CellsAt.drew ?_ | refine CellsAt.drewN ?_ _))) _ Try.underlying87 rfl (by kernel_rfl) ?_) | (refine wpList_store_new rfl 87 _ _ rfl _ _ (NodeM.mk p v false l r).cells _ rfl rfl (by simp) (by kernel_rfl) rfl (by kernel_rfl) ?_))
  refine wp_gen (fun W => CellsAt W w.heap.size 0 (NodeM.mk p v false l r).cells ∧ Fr noB w W ∧ w.heap.size < W.heap.size) ⟨by (repeat (first | assumption | exact cells_new _ _ _ (by simp) | refine CellsAt.alloc ?_ _ | refine CellsAt.drew ?_ | refine CellsAt.drewN ?_ _)), (Fr.refl _ _).alloc _, by simp⟩ ?_
  rintro w1 ⟨hc1, hf1, hw1⟩
  obtain ⟨_, _, _, d3, d4, d5⟩ := node_now hc1
  simp only [Nat.zero_add] at d3 d4 d5
  have Hf1 := hide hf1; have Hc1 := hide hc1
  have H1 := hide (H.out.frN hf1)
  obtain ⟨⟨⟨na, nl1, nc1⟩, ⟨fa, fl, fc⟩, hblk, hown, howf, hFn, hFf⟩, _⟩ := H1.out
  have hfl2 : fl = fr.length := howf.1
  have hflm : fl ≤ 1000000 := by omega
  have Hfl2 := hide hfl2
  clear hfl2
  have c1 : w1.cell? ⟨g, 1, none⟩ = some (.slice fa fl fc) := hblk.cell 1
  have Hblk := hide hblk; have Hown := hide hown; have Howf := hide howf; have HFn := hide hFn; have HFf := hide hFf
  clear hc1 hf1 c0 hin hcx hblk hown howf hFn hFf
  have guard : ((l : Int) != 0) = false ∨ (((l : Int) != 0) = true ∧ ((r : Int) != 0) = false) := by
    have := Hk.out
    by_cases e : l = 0
    · left; simp [e]
    · right; refine ⟨by simp only [bne_iff_ne, ne_eq]; omega, ?_⟩
      have : r = 0 := by omega
      simp [this]
  rcases guard with gl | ⟨gl, grr⟩
  all_goals
    go_upto_region 4 with (fail)
    go_upto_region 5 with (first | (refine wpList_buildSlice rfl 48 1 _ rfl #[(0, .int .i64 (i : Nat))] (by kernel_rfl) Try.underlying48 (.int .i64 0) 1 (by kernel_rfl) #[.int .i64 (i : Nat)] (by decide) (by decide) (by kernel_rfl) ?_) | (refine wpList_append_rows (N := 1) (cells := icells) (s := ⟨fa, fl, fc⟩) (xs := fr) (q := ⟨some ⟨w1.heap.size, 0, none⟩, 1, 1⟩) (ys := [i]) (ok := fun _ => True) rfl (.tmp 32) (.tmp 34) 48 rfl Try.underlying48 _ 8 int_info (by kernel_rfl) (by decide) icells_length icells_mem rfl (Howf.out.fr ((Fr.refl noB w1).alloc _) (fun _ _ h => h)) rfl (slof_one (w := w1) icells_length 3 trivial) (fun h => by simp at h) (by simp [maxLen]; omega) (by simp; omega) ?_; intro s2 w5 hown6 hf5' hor; have hf5 := shr_fr hf5'; obtain ⟨hc5, hz5, hg5⟩ := shr_head Hblk.out Howf.out hf5; have Hown6 := hide hown6; have Hf5 := hide hf5; have Hor := hide (shr_or hor); obtain ⟨s2a, s2l, s2c⟩ := s2; clear hown6 hf5 hf5' hor))
    clear c1
    try clear gl
    try clear grr
    have hb5 := Hblk.out.fr Hf5.out (own_ne_blk Hblk.out Howf.out (by decide))
    have hs : Fr (oneB g) w5 (w5.setCell ⟨g, 1, none⟩ (.slice s2a s2l s2c)) := (Fr.refl (oneB g) _).setCell (p := ⟨g, 1, none⟩) (.inr rfl) _
    have hFR : Fr F w (w5.setCell ⟨g, 1, none⟩ (.slice s2a s2l s2c)) := Fr.trans (Fr.trans Hf1.out Hf5.out (U := F) (fun _ _ h => h.elim) (fun b _ hb => HFf.out b hb)) hs (fun _ _ h => h) (fun b _ e => by unfold oneB at e; subst e; exact H.out.here)
    have hn5 : OwnN w5 ⟨na, nl1, nc1⟩ N := Hown.out.fr Hf5.out (fun b hb e => own_ne_own Hown.out Howf.out (by decide) b hb e)
    refine wp_gen (fun W => TrieAt W (gr F w W) g N (fr ++ [i]) root many ∧ Fr F w W ∧ CellsAt W w.heap.size 0 (NodeM.mk p v false l r).cells) ⟨trie_upd H.out (sn := ⟨na, nl1, nc1⟩) (sf := ⟨s2a, s2l, s2c⟩) (hb5.set 1 _) (hn5.fr hs (fun b hb e => by unfold oneB at e; subst e; exact own_ne_blk hb5 hn5 (by decide) hb)) (Hown6.out.fr hs (fun b hb e => by unfold oneB at e; subst e; exact own_ne_blk hb5 Hown6.out (by decide) hb)) hFR (fun b hb => .inl (HFn.out b hb)) (fun b hb => ?_) H.out.len (by simpa using hfl) H.out.blen, hFR, Hc1.out.fr (Fr.trans Hf5.out hs (U := F) (fun b _ hb => HFf.out b hb) (fun b _ e => by unfold oneB at e; subst e; exact H.out.here)) (fun hb => by have := H.out.lt _ hb; omega)⟩ ?_
    · rcases Hor.out b hb with h | h
      · exact .inl (HFf.out b h)
      · exact .inr (by omega)
    rintro w6 ⟨ht6, hf6, hc6⟩
    obtain ⟨_, _, _, _, e4, e5⟩ := node_now hc6
    simp only [Nat.zero_add] at e4 e5
    have Ht6 := hide ht6; have Hf6 := hide hf6
    clear ht6 hf6 hc6 hFR hs hb5 hn5 hc5 hz5 hg5 d3 d4 d5
    go_wp2_with fail
    go_ret
    exact ⟨ret_int (by simp), Ht6.out, Hf6.out⟩
end Go.Proofs.Ytgjabgneapdbiaa
