/- slices.Insert of one route into a slice of the call's own. -/
import Derived.Test.YtdmghildjadjeaaRibBase
import Derived.Test.YtdmghildjadjeaaCopy
namespace Go.Proofs.Ytdmghildjadjeaa
open Go.RowKit Go.BigFrame
set_option linter.unusedSimpArgs false
set_option linter.unusedVariables false
attribute [local irreducible] wpMix wpAnyG

theorem size_route (w : World) : (Go.sizeOf 26).run Try.prog w = .ok 6 w := by
  obtain ⟨i, hi, h⟩ := Option.map_eq_some_iff.1 (show (Try.prog.info? 26).map (·.size) = some 6 from by kernel_rfl)
  simp [sizeOf, typeInfo, hi, h]
abbrev OwnR (w : World) (s : SlV) (l : List RouteM) : Prop := OwnL w 26 6 RouteM.cells s l
def SlTo (w : World) (s : SlV) (l' : List RouteM) (e : Ending) (w' : World) : Prop := ∃ s', e = .returned (.slice s'.a s'.len s'.cap) ∧ OwnR w' s' l' ∧ Fr (ownB s) w w' ∧ ∀ b, ownB s' b → ownB s b ∨ w.heap.size ≤ b
def insL (l : List RouteM) (i : Nat) (r : RouteM) : List RouteM := l.take i ++ r :: l.drop i

set_option maxHeartbeats 1000000 in
theorem ins_end (w : World) (s : SlV) (l : List RouteM) (r : RouteM) (vb : Nat) (hs : OwnR w s l) (hlen : l.length < 256) (hv : Blk w vb r.cells.toArray 26) :
    Calls Try.prog 33 #[.slice s.a s.len s.cap, .int .i64 l.length, .slice (some ⟨vb, 0, none⟩) 1 1] w (SlTo w s (insL l l.length r)) := by
  have hsl := hs.1
  have Hs := hide hs
  have Hq := hide (slof_blk (ok := fun _ => True) (xs := [r]) (junk := []) RouteM.length (by simpa using hv) (fun _ _ => trivial) 1 (by simp [maxLen]))
  have hmc : s.cap ≤ maxLen := by
    rcases hs.2 with rfl | ⟨_, _, _, _, _, _, h⟩
    · exact Nat.zero_le _
    · exact h
  have hcl : s.len ≤ s.cap := by
    rcases hs.2 with rfl | ⟨_, _, _, _, _, h, _⟩
    · exact Nat.zero_le _
    · exact h
  obtain ⟨sa, sl, sc⟩ := s
  simp only at hsl hmc hcl ⊢
  unfold maxLen at hmc
  rw [← hsl]
  rw [← hsl] at hlen
  have Hsl := hide hsl
  clear hsl hs hv
  have Hi := hide (show insL l sl r = l ++ [r] from by have := Hsl.out; unfold insL; rw [this, List.take_length, List.drop_length])
  cases sa with
  | none =>
    have h0 := Hs.out.nilcap rfl
    simp only [SlV.mk.injEq, true_and] at h0
    obtain ⟨rfl, rfl⟩ := h0
    go_enter Try.func33, Try.ntmps33
    go_upto_region 7 with (fail)
    go_wp2_with (refine wpList_append_rows (N := 6) (cells := RouteM.cells) (xs := l) (s := ⟨none, 0, 0⟩) (q := ⟨some ⟨vb, 0, none⟩, 1, 1⟩) (ys := [r]) (ok := fun _ => True) rfl (.tmp 23) (.tmp 24) 35 rfl Try.underlying35 _ 48 route_info (by kernel_rfl) (by decide) RouteM.length RouteM.mem rfl Hs.out rfl Hq.out (fun h => by cases h) (by have := Hsl.out; simp [maxLen]; omega) (by have := Hsl.out; simp; omega) ?_; intro s' w' h1 h2 h3)
    go_ret
    refine ⟨s', rfl, by rw [Hi.out]; exact h1, h2, ?_⟩
    rintro b ⟨x, hx, rfl⟩
    rcases h3 with ⟨e1, _⟩ | ⟨g', e1, hg, _⟩
    · exact .inl ⟨x, by rw [← e1]; exact hx, rfl⟩
    · rw [e1] at hx
      obtain rfl := Option.some.inj hx
      exact .inr hg
  | some ad =>
    obtain ⟨g, rfl⟩ : ∃ g, ad = ⟨g, 0, none⟩ := by
      rcases Hs.out.2 with h | ⟨g, _, h, _⟩
      · simp at h
      · exact ⟨g, Option.some.inj h⟩
    by_cases hcs : sc = sl
    all_goals
      go_enter Try.func33, Try.ntmps33
      go_upto_region 7 with (fail)
      go_wp2_with (refine wpList_append_rows (N := 6) (cells := RouteM.cells) (xs := l) (s := ⟨some ⟨g, 0, none⟩, sl, sc⟩) (q := ⟨some ⟨vb, 0, none⟩, 1, 1⟩) (ys := [r]) (ok := fun _ => True) rfl (.tmp 23) (.tmp 24) 35 rfl Try.underlying35 _ 48 route_info (by kernel_rfl) (by decide) RouteM.length RouteM.mem rfl Hs.out rfl Hq.out (fun h => by cases h) (by have := Hsl.out; simp [maxLen]; omega) (by have := Hsl.out; simp; omega) ?_; intro s' w' h1 h2 h3)
      go_ret
      refine ⟨s', rfl, by rw [Hi.out]; exact h1, h2, ?_⟩
      rintro b ⟨x, hx, rfl⟩
      rcases h3 with ⟨e1, _⟩ | ⟨g', e1, hg, _⟩
      · exact .inl ⟨x, by rw [← e1]; exact hx, rfl⟩
      · rw [e1] at hx
        obtain rfl := Option.some.inj hx
        exact .inr hg

set_option maxHeartbeats 1000000 in
theorem ins_room (w : World) (g n c i vb : Nat) (l : List RouteM) (r : RouteM) (junk : List Value) (hb : Blk w g (l.flatMap RouteM.cells ++ junk).toArray 26) (hjl : (l.flatMap RouteM.cells ++ junk).length = c * 6) (hn : n = l.length) (hi : i < n) (hlen : n < 256) (hroom : n + 1 ≤ c) (hcm : c ≤ maxLen)
    (hv : Blk w vb r.cells.toArray 26) (hne : vb ≠ g) :
    Calls Try.prog 33 #[.slice (some ⟨g, 0, none⟩) n c, .int .i64 i, .slice (some ⟨vb, 0, none⟩) 1 1] w (SlTo w ⟨some ⟨g, 0, none⟩, n, c⟩ (insL l i r)) := by
  have Hb := hide hb; have Hjl := hide hjl; have Hn := hide hn; have Hv := hide hv
  have hjl2 : junk.length = (c - n) * 6 := by rw [List.length_append, flat_length RouteM.length, ← hn] at hjl; omega
  have Hjl2 := hide hjl2
  unfold maxLen at hcm
  have hov : ∀ lb cb, (callFunc 43 #[.slice (some ⟨vb, 0, none⟩) 1 1, .slice (some ⟨g, (i + 1) * 6, none⟩) lb cb]).run Try.prog w = .ok (.value (.bool false)) w := fun lb cb => by
    rw [run_callFunc_extern Try.func43 (by kernel_rfl) (by kernel_rfl) (by kernel_rfl) (e := Extern.SlicesOverlaps.overlaps #[35, 35] #[4]) (by kernel_rfl),
      Lib.run_overlaps_apart w 35 4 26 Try.underlying35 6 size_route ⟨vb, 0, none⟩ ⟨g, (i + 1) * 6, none⟩ 1 1 lb cb hne _ _ _ _ Hv.out.shape Hb.out.shape (by rw [List.size_toArray, Hjl.out]; omega) (Hv.out.free _) (Hv.out.free _)]
    rfl
  clear hb hjl hn hv hjl2
  have hm1 : ((i : Int) * 6).toNat = i * 6 := by omega
  have hm2 : (((i : Int) + 1) * 6).toNat = (i + 1) * 6 := by omega
  go_enter Try.func33, Try.ntmps33
  go_upto_region 15 with (simp only [hov])
  refine wp_region_mixT 8 (fun W => ∃ z : Grow w, W = z.v) (by kernel_rfl) (by kernel_rfl) (inGrow (Fr.refl _ _).drew) ?_
  simp only [List.take_succ_cons, List.take_zero, List.drop_succ_cons, List.drop_zero]
  repeat (first | (refine wpMix_skip rfl ?_; simp only [Act.put, List.setIfInBounds_toArray, List.set_cons_succ, List.set_cons_zero]) | (refine wpMix_calm rfl rfl (fun K hK => ?_); go_big_quiet_op; refine hK _ ?_; clear hK K))
  refine wpMix_nil ?_
  have hlen1 : ((l.drop i).flatMap RouteM.cells).length = (n - i) * 6 := by rw [flat_length RouteM.length, List.length_drop, Hn.out]
  have hbd : Blk w.drew g (l.flatMap RouteM.cells ++ junk).toArray 26 := Hb.out
  refine wpList_copyN rfl (.tmp 73) (.tmp 76) 35 35 26 rfl g ((i + 1) * 6) (n - i) (c - (i + 1)) g (i * 6) (n + 1 - i) (c - i) rfl rfl (l.flatMap RouteM.cells ++ junk) 26 ((l.drop i).flatMap RouteM.cells) 6 Try.underlying35 (by kernel_rfl) hbd
    (by rw [hlen1]; congr 1; simp only [Nat.min_def]; split <;> omega) (blk_from RouteM.length hbd i (by have := Hn.out; omega)) (by rw [hlen1, Hjl.out]; omega) (flat_mem RouteM.mem _) ?_
  simp only [Act.put, List.setIfInBounds_toArray, List.set_cons_succ, List.set_cons_zero]
  have e1 : (l.flatMap RouteM.cells ++ junk).take ((i + 1) * 6) ++ (l.drop i).flatMap RouteM.cells ++ (l.flatMap RouteM.cells ++ junk).drop ((i + 1) * 6 + ((l.drop i).flatMap RouteM.cells).length) = (l.take (i + 1) ++ l.drop i).flatMap RouteM.cells ++ junk.drop 6 := by
    have h1 := flat_take RouteM.length l junk (i + 1) (by have := Hn.out; omega)
    have h2 := flat_drop2 RouteM.length l junk 1
    rw [h1, hlen1, show (i + 1) * 6 + (n - i) * 6 = (l.length + 1) * 6 by have := Hn.out; omega, h2, List.flatMap_append]
  rw [e1]
  have hb1 := hbd.setRow (cs' := ((l.take (i + 1) ++ l.drop i).flatMap RouteM.cells ++ junk.drop 6).toArray)
  have hf1 : Fr (oneB g) w (w.drew.setRow g ((l.take (i + 1) ++ l.drop i).flatMap RouteM.cells ++ junk.drop 6).toArray) := (Fr.refl (oneB g) w).drew.setRow (.inr rfl) _
  generalize w.drew.setRow g ((l.take (i + 1) ++ l.drop i).flatMap RouteM.cells ++ junk.drop 6).toArray = w1 at hb1 hf1 ⊢
  have Hb1 := hide hb1; have Hf1 := hide hf1
  have hl2 : (l.take (i + 1) ++ l.drop i).length = n + 1 := by rw [List.length_append, List.length_take, List.length_drop]; have := Hn.out; omega
  have Hl2 := hide hl2
  have hv1 : CellsAt w1 vb 0 r.cells := (Blk.cells Hv.out).fr hf1 (fun e => hne e)
  clear hb1 hf1 hbd e1 hl2 hov hlen1
  have e2 : ((l.take (i + 1) ++ l.drop i).flatMap RouteM.cells ++ junk.drop 6).take (i * 6) ++ r.cells ++ ((l.take (i + 1) ++ l.drop i).flatMap RouteM.cells ++ junk.drop 6).drop (i * 6 + r.cells.length) = (insL l i r).flatMap RouteM.cells ++ junk.drop 6 := by
    have h1 := flat_take RouteM.length (l.take (i + 1) ++ l.drop i) (junk.drop 6) i (by rw [Hl2.out]; omega)
    have h2 := flat_drop RouteM.length (l.take (i + 1) ++ l.drop i) (junk.drop 6) (i + 1) (by rw [Hl2.out]; omega)
    have h3 : (l.take (i + 1)).length = i + 1 := by rw [List.length_take]; have := Hn.out; omega
    rw [h1, RouteM.length, show i * 6 + 6 = (i + 1) * 6 by omega, h2, List.take_append_of_le_length (by omega), List.take_take, Nat.min_eq_left (by omega), List.drop_append_of_le_length (by omega), List.drop_of_length_le (l := l.take (i + 1)) (by omega), List.nil_append]
    unfold insL
    rw [List.flatMap_append, List.flatMap_cons]
    simp only [List.append_assoc]
  go_wp2_with (refine wpList_copyN rfl (.tmp 80) (.tmp 81) 35 35 26 rfl g (i * 6) (n + 1 - i) (c - i) vb 0 1 1 rfl rfl _ 26 r.cells 6 Try.underlying35 (by kernel_rfl) Hb1.out (by rw [RouteM.length]; simp only [Nat.min_def]; split <;> omega) hv1 (by rw [List.length_append, flat_length RouteM.length, Hl2.out, RouteM.length]; omega) (RouteM.mem r) ?_; rw [e2]; refine wpList_gen (fun W => Blk W g ((insL l i r).flatMap RouteM.cells ++ junk.drop 6).toArray 26 ∧ Fr (oneB g) w1 W) ⟨Hb1.out.setRow, (Fr.refl (oneB g) w1).setRow (.inr (show oneB g g from rfl)) _⟩ ?_; rintro w2 ⟨hb2, hf2⟩)
  go_ret
  have hfin : (insL l i r).length = n + 1 := by unfold insL; rw [List.length_append, List.length_cons, List.length_take, List.length_drop]; have := Hn.out; omega
  refine ⟨⟨some ⟨g, 0, none⟩, n + 1, c⟩, rfl, ⟨hfin.symm, .inr ⟨g, junk.drop 6, rfl, hb2, ?_, hroom, by unfold maxLen; omega⟩⟩, ?_, fun b hb => .inl hb⟩
  · rw [List.length_append, flat_length RouteM.length, hfin, List.length_drop, Hjl2.out]
    show _ = c * 6
    omega
  · have hown : ∀ b, oneB g b → ownB ⟨some ⟨g, 0, none⟩, n, c⟩ b := fun b hb => ⟨_, rfl, hb.symm⟩
    exact (Hf1.out.tr hf2).mono (fun b _ hb => hown b hb)

set_option maxHeartbeats 1000000 in
theorem ins_grow (w : World) (g n c i vb : Nat) (l : List RouteM) (r : RouteM) (junk : List Value) (hb : Blk w g (l.flatMap RouteM.cells ++ junk).toArray 26) (hn : n = l.length) (hi : i < n) (hlen : n < 256) (hroom : c < n + 1) (hnc : n ≤ c)
    (hv : Blk w vb r.cells.toArray 26) :
    Calls Try.prog 33 #[.slice (some ⟨g, 0, none⟩) n c, .int .i64 i, .slice (some ⟨vb, 0, none⟩) 1 1] w (SlTo w ⟨some ⟨g, 0, none⟩, n, c⟩ (insL l i r)) := by
  have Hb := hide hb; have Hn := hide hn; have Hv := hide hv
  have hgl := hb.lt; have hvl := hv.lt
  clear hb hn hv
  have hm1 : ((i : Int) * 6).toNat = i * 6 := by omega
  have hm2 : (((i : Int) + 1) * 6).toNat = (i + 1) * 6 := by omega
  have hkk : (n : Int) + 1 - (i : Int) = ((n + 1 - i : Nat) : Int) := by omega
  have hol : ((l.take i).flatMap RouteM.cells).length = i * 6 := by rw [flat_length RouteM.length, List.length_take]; have := Hn.out; congr 1; omega
  have hold : CellsAt w g 0 ((l.take i).flatMap RouteM.cells) := blk_to RouteM.length Hb.out i (by have := Hn.out; omega)
  have Hol := hide hol; have Hold := hide hold
  clear hol hold
  go_enter Try.func33, Try.ntmps33
  go_upto_region 10 with (refine wpList_append_zeros rfl (.tmp 34) (.tmp 39) 35 3 26 rfl Try.underlying35 .i64 Try.underlying3 (.agg zeroR.cells.toArray) 6 48 route_info (by kernel_rfl) (by decide) g i c rfl (n + 1 - i) rfl ((l.take i).flatMap RouteM.cells) Hol.out Hold.out (by omega) (by omega) (by simp [maxLen]; omega) (by omega) ?_; intro G Z hG hGm hZ)
  rw [show i + (n + 1 - i) = n + 1 by omega] at hG ⊢
  unfold maxLen at hGm
  have hgn : ∃ gn, gn = w.heap.size := ⟨_, rfl⟩
  obtain ⟨gn, hgn⟩ := hgn
  rw [← hgn]
  refine wp_gen (fun W => Blk W gn ((l.take i).flatMap RouteM.cells ++ Z).toArray 26 ∧ Fr noB w W) ⟨by rw [hgn]; exact (Blk.alloc_new w ((l.take i).flatMap RouteM.cells ++ Z).toArray 26).drew, ((Fr.refl noB w).alloc _).drew⟩ ?_
  rintro w1 ⟨hb1, hf1⟩
  have Hgn := hide hgn
  have hgg : g ≠ gn := by omega
  clear hgn
  have Hb1 := hide hb1; have Hf1 := hide hf1; have HZ := hide hZ
  have hv1 : CellsAt w1 vb 0 r.cells := (Blk.cells Hv.out).fr hf1 (fun e => e)
  clear hb1 hf1 hZ
  have hl1 : (l.take i).length = i := by rw [List.length_take]; have := Hn.out; omega
  have Hl1 := hide hl1
  clear hl1
  have e1 : ((l.take i).flatMap RouteM.cells ++ Z).take (i * 6) ++ r.cells ++ ((l.take i).flatMap RouteM.cells ++ Z).drop (i * 6 + r.cells.length) = (l.take i ++ [r]).flatMap RouteM.cells ++ Z.drop 6 := by
    have h1 := flat_take RouteM.length (l.take i) Z i (by rw [Hl1.out]; exact Nat.le_refl _)
    have h2 := flat_drop2 RouteM.length (l.take i) Z 1
    rw [Hl1.out] at h2
    rw [h1, RouteM.length, show i * 6 + 6 = (i + 1) * 6 by omega, h2, List.take_take, Nat.min_self, List.flatMap_append, List.flatMap_cons, List.flatMap_nil, List.append_nil]
  go_upto_region 11 with (refine wpList_copyN rfl (.tmp 43) (.tmp 44) 35 35 26 rfl gn (i * 6) (n + 1 - i) (G - i) vb 0 1 1 rfl rfl _ 26 r.cells 6 Try.underlying35 (by kernel_rfl) Hb1.out (by rw [RouteM.length]; simp only [Nat.min_def]; split <;> omega) hv1 (by rw [List.length_append, flat_length RouteM.length, Hl1.out, RouteM.length, HZ.out]; omega) (RouteM.mem r) ?_; rw [e1]; refine wpList_gen (fun W => Blk W gn ((l.take i ++ [r]).flatMap RouteM.cells ++ Z.drop 6).toArray 26 ∧ Fr (oneB gn) w1 W) ⟨Hb1.out.setRow, (Fr.refl (oneB gn) w1).setRow (.inr (show oneB gn gn from rfl)) _⟩ ?_; rintro w2 ⟨hb2, hf2⟩; simp only [Act.put, List.setIfInBounds_toArray, List.set_cons_succ, List.set_cons_zero])
  have Hb2 := hide hb2; have Hf2 := hide (show Fr noB w w2 from Fr.trans Hf1.out hf2 (fun _ _ h => h) (fun b hb e => by have := Hgn.out; unfold oneB at e; omega))
  clear hb2 hf2 e1 hv1
  refine wp_region_mixT 8 (fun W => ∃ z : Grow w2, W = z.v) (by kernel_rfl) (by kernel_rfl) (inGrow (Fr.refl _ _).drew) ?_
  simp only [List.take_succ_cons, List.take_zero, List.drop_succ_cons, List.drop_zero]
  repeat (first | (refine wpMix_skip rfl ?_; simp only [Act.put, List.setIfInBounds_toArray, List.set_cons_succ, List.set_cons_zero]) | (refine wpMix_calm rfl rfl (fun K hK => ?_); go_big_quiet_op; refine hK _ ?_; clear hK K))
  refine wpMix_nil ?_
  have hlen1 : ((l.drop i).flatMap RouteM.cells).length = (n - i) * 6 := by rw [flat_length RouteM.length, List.length_drop, Hn.out]
  have hbd : Blk w2.drew gn ((l.take i ++ [r]).flatMap RouteM.cells ++ Z.drop 6).toArray 26 := Hb2.out
  have hbs : Blk w2.drew g (l.flatMap RouteM.cells ++ junk).toArray 26 := Hb.out.fr Hf2.out.drew (fun (e : noB g) => e)
  have hl2 : (l.take i ++ [r]).length = i + 1 := by rw [List.length_append, Hl1.out]; rfl
  refine wpList_copyN rfl (.tmp 50) (.tmp 53) 35 35 26 rfl gn ((i + 1) * 6) (n - i) (G - (i + 1)) g (i * 6) (n - i) (c - i) rfl rfl _ 26 ((l.drop i).flatMap RouteM.cells) 6 Try.underlying35 (by kernel_rfl) hbd
    (by rw [hlen1]; congr 1; simp only [Nat.min_def]; split <;> omega) (blk_from RouteM.length hbs i (by have := Hn.out; omega)) (by rw [hlen1, List.length_append, flat_length RouteM.length, hl2, List.length_drop, HZ.out]; omega) (flat_mem RouteM.mem _) ?_
  have e2 : ((l.take i ++ [r]).flatMap RouteM.cells ++ Z.drop 6).take ((i + 1) * 6) ++ (l.drop i).flatMap RouteM.cells ++ ((l.take i ++ [r]).flatMap RouteM.cells ++ Z.drop 6).drop ((i + 1) * 6 + ((l.drop i).flatMap RouteM.cells).length) = (insL l i r).flatMap RouteM.cells ++ (Z.drop 6).drop ((n - i) * 6) := by
    have h1 := flat_take RouteM.length (l.take i ++ [r]) (Z.drop 6) (i + 1) (by rw [hl2]; exact Nat.le_refl _)
    have h2 := flat_drop2 RouteM.length (l.take i ++ [r]) (Z.drop 6) (n - i)
    rw [hl2, Nat.add_mul] at h2
    rw [h1, hlen1, h2, List.take_of_length_le (by rw [hl2]; exact Nat.le_refl _)]
    unfold insL
    rw [List.flatMap_append, List.flatMap_append, List.flatMap_cons, List.flatMap_cons, List.flatMap_nil, List.append_nil]
    simp only [List.append_assoc]
  rw [e2]
  refine wpList_gen (fun W => Blk W gn ((insL l i r).flatMap RouteM.cells ++ (Z.drop 6).drop ((n - i) * 6)).toArray 26 ∧ Fr (oneB gn) w2 W) ⟨hbd.setRow, (Fr.refl (oneB gn) w2).drew.setRow (.inr (show oneB gn gn from rfl)) _⟩ ?_
  rintro w3 ⟨hb3, hf3⟩
  have Hb3 := hide hb3; have Hf3 := hide (show Fr noB w w3 from Fr.trans Hf2.out hf3 (fun _ _ h => h) (fun b hb e => by have := Hgn.out; unfold oneB at e; omega))
  clear hb3 hf3 e2 hbd hbs
  simp only [Act.put, List.setIfInBounds_toArray, List.set_cons_succ, List.set_cons_zero]
  go_wp2_with fail
  go_ret
  have hfin : (insL l i r).length = n + 1 := by unfold insL; rw [List.length_append, List.length_cons, List.length_take, List.length_drop]; have := Hn.out; omega
  refine ⟨⟨some ⟨gn, 0, none⟩, n + 1, G⟩, rfl, ⟨hfin.symm, .inr ⟨gn, _, rfl, Hb3.out, ?_, hG, by unfold maxLen; omega⟩⟩, Hf3.out.mono (fun _ _ h => h.elim), fun b hb => ?_⟩
  · rw [List.length_append, flat_length RouteM.length, hfin, List.length_drop, List.length_drop, HZ.out]
    show _ = G * 6
    omega
  · obtain ⟨x, hx, rfl⟩ := hb
    obtain rfl := Option.some.inj hx
    exact .inr (by have := Hgn.out; simp only; omega)

/-- slices.Insert of one route. -/
theorem rib_insert (w : World) (s : SlV) (l : List RouteM) (r : RouteM) (i vb : Nat) (hs : OwnR w s l) (hi : i ≤ l.length) (hlen : l.length < 256) (hv : Blk w vb r.cells.toArray 26) (hne : ¬ ownB s vb) :
    Calls Try.prog 33 #[.slice s.a s.len s.cap, .int .i64 i, .slice (some ⟨vb, 0, none⟩) 1 1] w (SlTo w s (insL l i r)) := by
  by_cases he : i = l.length
  · subst he
    exact ins_end w s l r vb hs hlen hv
  · obtain ⟨h1, h2⟩ := hs
    rcases h2 with rfl | ⟨g, junk, ha, hb, hjl, hle, hcm⟩
    · simp only at h1; omega
    · obtain ⟨sa, sl, sc⟩ := s
      simp only at ha h1 hjl hle hcm
      subst ha
      by_cases hroom : sl + 1 ≤ sc
      · exact ins_room w g sl sc i vb l r junk hb hjl h1 (by omega) (by omega) hroom hcm hv (fun e => hne ⟨_, rfl, e.symm⟩)
      · exact ins_grow w g sl sc i vb l r junk hb h1 (by omega) (by omega) (by omega) hle hv
end Go.Proofs.Ytdmghildjadjeaa
