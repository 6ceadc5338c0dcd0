/- The document's answer to chapter 11: Add, Del. -/
import Derived.Test.YtdmghildjadjeaaRibPlace
namespace Go.Proofs.Ytdmghildjadjeaa
open Go.RowKit Go.BigFrame
set_option linter.unusedSimpArgs false
set_option linter.unusedVariables false
attribute [local irreducible] wpMix wpAnyG

theorem own_take {w : World} {s : SlV} {l : List RouteM} (h : OwnR w s l) (i c : Nat) (hi : i ≤ l.length) : SlOf w 6 RouteM.cells (fun _ => True) ⟨s.a, i, c⟩ (l.take i) := by
  have hle := h.le
  obtain ⟨h1, h2⟩ := h
  refine ⟨by simp [List.length_take]; omega, by simp only; omega, ?_⟩
  rcases h2 with rfl | ⟨g, junk, ha, hb, _⟩
  · left
    have : l = [] := List.eq_nil_of_length_eq_zero h1.symm
    subst this; simp
  · right
    refine ⟨g, 0, ha, hb.lt, fun k x hx => ⟨?_, trivial⟩⟩
    rw [List.getElem?_take] at hx
    split at hx
    · have := slof_blk (ok := fun _ => True) RouteM.length hb (fun _ _ => trivial) 0 hle
      obtain ⟨_, _, h3⟩ := this
      rcases h3 with h3 | ⟨b, o, hbo, _, h4⟩
      · subst h3; simp at hx
      · simp only [Option.some.injEq, Addr.mk.injEq, and_true] at hbo
        obtain ⟨rfl, rfl⟩ := hbo
        exact (h4 k x hx).1
    · simp at hx
theorem own_drop {w : World} {g sl sc c : Nat} {l : List RouteM} (h : OwnR w ⟨some ⟨g, 0, none⟩, sl, sc⟩ l) (j n : Nat) (hj : j ≤ l.length) (hn : n = l.length - j) : SlOf w 6 RouteM.cells (fun _ => True) ⟨some ⟨g, j * 6, none⟩, n, c⟩ (l.drop j) := by
  have hle := h.le
  obtain ⟨h1, h2⟩ := h
  refine ⟨by simp [List.length_drop]; omega, by simp only; omega, ?_⟩
  rcases h2 with h2 | ⟨g', junk, ha, hb, _⟩
  · simp at h2
  · simp only [Option.some.injEq, Addr.mk.injEq, and_true] at ha
    subst ha
    right
    refine ⟨g, j * 6, rfl, hb.lt, fun k x hx => ⟨?_, trivial⟩⟩
    rw [List.getElem?_drop] at hx
    have := slof_blk (ok := fun _ => True) RouteM.length hb (fun _ _ => trivial) 0 hle
    obtain ⟨_, _, h3⟩ := this
    rcases h3 with h3 | ⟨b, o, hbo, _, h4⟩
    · subst h3; simp at hx
    · simp only [Option.some.injEq, Addr.mk.injEq, and_true] at hbo
      obtain ⟨rfl, rfl⟩ := hbo
      have := (h4 (j + k) x hx).1
      rwa [Nat.zero_add, Nat.add_mul] at this
theorem own_drop_end {w : World} {l : List RouteM} (a : Option Addr) (j n c : Nat) (hj : l.length ≤ j) (hn : n = 0) : SlOf w 6 RouteM.cells (fun _ => True) ⟨a, n, c⟩ (l.drop j) := by
  rw [List.drop_of_length_le hj]
  subst hn
  exact ⟨rfl, Nat.zero_le _, .inl rfl⟩
theorem own_shape {w : World} {sa : Option Addr} {sl sc : Nat} {l : List RouteM} (h : OwnR w ⟨sa, sl, sc⟩ l) : (sa = none ∧ sl = 0 ∧ sc = 0) ∨ ∃ g, sa = some ⟨g, 0, none⟩ := by
  rcases h.2 with h | ⟨g, _, h, _⟩
  · simp only [SlV.mk.injEq] at h; exact .inl h
  · exact .inr ⟨g, h⟩
/-- The table behind a change of its slice. -/
theorem doc_upd {w w' : World} {F : Nat → Prop} {g : Nat} {l l' : List RouteM} {s' : SlV} (h : Doc w F g l) (hb : Blk w' g #[.slice s'.a s'.len s'.cap] 50) (ho : OwnR w' s' l') (hF : Fr F w w') (hs : ∀ b, ownB s' b → F b ∨ w.heap.size ≤ b)
    (hlen : l'.length ≤ 256) (hwf : ∀ r ∈ l', r.wf) : Doc w' (gr F w w') g l' := by
  refine ⟨⟨s', hb, ho, fun b hb => ?_⟩, .inl h.here, fun b hb => ?_, hlen, hwf⟩
  · rcases hs b hb with h1 | h1
    · exact .inl h1
    · exact .inr ⟨h1, ho.lt b hb⟩
  · rcases hb with h1 | h1
    · exact hF.lt (h.lt b h1)
    · exact h1.2

set_option maxRecDepth 100000 in
set_option maxHeartbeats 4000000 in
theorem doc_add (w : World) (F : Nat → Prop) (g : Nat) (l : List RouteM) (h : Doc w F g l) (r : RouteM) (hr : r.wf) :
    Calls Try.prog 36 #[.pointer (some ⟨g, 0, none⟩), .agg r.cells.toArray] w (DocTo w F g (addR l r).l (.int .i64 (addR l r).e)) := by
  have H := hide h
  have hgl := h.lt g h.here
  have hlen := h.len
  clear h
  go_enter Try.func36, Try.ntmps36
  go_upto_region 1 with (fail)
  refine wp_gen (fun W => CellsAt W w.heap.size 0 r.cells ∧ Fr noB w W ∧ W.heap.size = w.heap.size + 1) ⟨by (repeat (first | assumption | exact cells_new _ _ _ (by simp) | refine CellsAt.alloc ?_ _ | refine CellsAt.drew ?_ | refine CellsAt.drewN ?_ _)), (Fr.refl _ _).alloc _, by simp⟩ ?_
  rintro w1 ⟨hc, hf, hw1⟩
  have Hc := hide hc; have Hf := hide hf
  clear hf
  go_wp2_with (refine wpList_load_at rfl 26 _ rfl _ _ rfl (RouteM.cells _) (by (repeat (first | assumption | exact cells_new _ _ _ (by simp) | refine CellsAt.alloc ?_ _ | refine CellsAt.drew ?_ | refine CellsAt.drewN ?_ _))) _ Try.underlying26 rfl (by kernel_rfl) ?_)
  refine (ref_is r hr _).mono ?_
  rintro e w2 ⟨rfl, hf2⟩
  have Hf2 := hide (Hf.out.tr hf2); have hc2 : CellsAt w2 w.heap.size 0 r.cells := Hc.out.fr hf2 (fun h => h)
  have Hc2 := hide hc2
  have hw2 : w.heap.size < w2.heap.size := by have := hf2.size; omega
  clear hf2 hc hw1
  cases his : isR r with
  | false =>
    have HA := hide (show addR l r = ⟨1, l⟩ from by unfold addR; rw [if_pos his])
    clear his hc2
    go_wp2_with fail
    go_ret
    unfold DocTo
    rw [HA.out]
    exact ⟨rfl, H.out.same Hf2.out⟩
  | true =>
    have His := hide his
    clear his
    go_wp2_with (refine wpList_load_at rfl 26 _ rfl _ _ rfl (RouteM.cells _) (by (repeat (first | assumption | exact cells_new _ _ _ (by simp) | refine CellsAt.alloc ?_ _ | refine CellsAt.drew ?_ | refine CellsAt.drewN ?_ _))) _ Try.underlying26 rfl (by kernel_rfl) ?_)
    refine (doc_place w2 F g l (H.out.frN Hf2.out) r).mono ?_
    rintro e w3 ⟨rfl, hf3⟩
    have Hf3 := hide (Hf2.out.tr hf3)
    have Hc3 := hide (Hc2.out.fr hf3 (fun h => h))
    have hw3 : w.heap.size < w3.heap.size := by have := hf3.size; omega
    clear hf3 hc2
    obtain ⟨⟨⟨sa, sl, sc⟩, hblk, hown, hF2⟩, _⟩ := H.out.frN Hf3.out
    have hsl : sl = l.length := hown.1
    have c0 : w3.cell? ⟨g, 0, none⟩ = some (.slice sa sl sc) := hblk.cell 0
    have z0 : w3.frozen? ⟨g, 0, none⟩ = false := hblk.free 0
    have hmax : sl ≤ 256 := by rw [hsl]; exact hlen
    have hslc : sl ≤ sc := by
      rcases hown.2 with h | ⟨_, _, _, _, _, h, _⟩
      · simp only [SlV.mk.injEq] at h; omega
      · exact h
    have Hnc := hide hown.nilcap
    have Hblk := hide hblk; have Hown := hide hown; have HF2 := hide hF2; have Hsl := hide hsl
    clear hblk hown hF2 hsl
    unfold searchV
    have hple := posR_le l r
    cases hh : hasR l r with
    | true =>
      have hilt := hasR_lt hh
      have HA := hide (show addR l r = ⟨0, (l.take (posR l r) ++ [r]) ++ l.drop (posR l r + 1)⟩ from by unfold addR putR; rw [His.out, hh]; simp [List.set_eq_take_append_cons_drop, hilt])
      generalize posR l r = i at *
      clear hh
      have hil : i < sl := by have := Hsl.out; omega
      have hic : i ≤ sc := by omega
      go_upto_region 6 with (fail)
      have hg3 : ∀ z : Grow w3, z.v.cell? ⟨g, 0, none⟩ = some (.slice sa sl sc) := fun z => (Hblk.out.fr z.fr (fun h => h)).cell 0
      clear c0 z0
      refine any_start (fun W => ∃ z : Grow w3, W = z.v) 12 rfl (by kernel_rfl) (inGrow (Fr.refl _ _).drew) ?_
      intro L hL hleaf
      have hS : ∃ z : Grow w3, w3.drew = z.v := inGrow (Fr.refl _ _).drew
      (refine any_calm 1 (by assumption) (by simp only [List.getElem?_toArray, List.getElem?_cons_succ, List.getElem?_cons_zero]; exact rfl) (by kernel_rfl) (by kernel_rfl) (by kernel_rfl) (by kernel_rfl) (by assumption) (by rfl) (by rfl) (fun K hK => ?_); go_big_quiet_op; refine hK _ ?_; clear hK K)
      (refine any_calm 2 (by assumption) (by simp only [List.getElem?_toArray, List.getElem?_cons_succ, List.getElem?_cons_zero]; exact rfl) (by kernel_rfl) (by kernel_rfl) (by kernel_rfl) (by kernel_rfl) (by assumption) (by rfl) (by rfl) (fun K hK => ?_); go_big_quiet_op; refine hK _ ?_; clear hK K)
      (refine any_calm 3 (by assumption) (by simp only [List.getElem?_toArray, List.getElem?_cons_succ, List.getElem?_cons_zero]; exact rfl) (by kernel_rfl) (by kernel_rfl) (by kernel_rfl) (by kernel_rfl) (by assumption) (by rfl) (by rfl) (fun K hK => ?_); go_big_quiet_op; refine hK _ ?_; clear hK K)
      (refine any_calm 4 (by assumption) (by simp only [List.getElem?_toArray, List.getElem?_cons_succ, List.getElem?_cons_zero]; exact rfl) (by kernel_rfl) (by kernel_rfl) (by kernel_rfl) (by kernel_rfl) (by assumption) (by rfl) (by rfl) (fun K hK => ?_); go_big_quiet_op; refine hK _ ?_; clear hK K)
      (refine any_calm 5 (by assumption) (by simp only [List.getElem?_toArray, List.getElem?_cons_succ, List.getElem?_cons_zero]; exact rfl) (by kernel_rfl) (by kernel_rfl) (by kernel_rfl) (by kernel_rfl) (by assumption) (by rfl) (by rfl) (fun K hK => ?_); go_big_quiet_op; refine hK _ ?_; clear hK K)
      (refine any_calm 6 (by assumption) (by simp only [List.getElem?_toArray, List.getElem?_cons_succ, List.getElem?_cons_zero]; exact rfl) (by kernel_rfl) (by kernel_rfl) (by kernel_rfl) (by kernel_rfl) (by assumption) (by rfl) (by rfl) (fun K hK => ?_); go_big_quiet_op; refine hK _ ?_; clear hK K)
      refine any_load_at 8 hL (by simp only [List.getElem?_toArray, List.getElem?_cons_succ, List.getElem?_cons_zero]; exact rfl) (by kernel_rfl) (by kernel_rfl) (by kernel_rfl) (by kernel_rfl) hS (by rfl) 26 (.tmp 3) (by rfl) w.heap.size 0 (by rfl) r.cells ?hc _ Try.underlying26 rfl (by kernel_rfl) ?_
      case hc => rintro _ ⟨z, rfl⟩; exact Hc3.out.fr z.fr (fun h => h)
      simp only [Act.put, List.setIfInBounds_toArray, List.set_cons_succ, List.set_cons_zero]
      refine any_app2 (w0 := w3) (N := 6) (cells := RouteM.cells) (ok := fun _ => True) (q := ⟨sa, i, sc⟩) (ys := l.take i) 0 7 9 10 27 34 36 37 33 35 rfl rfl rfl rfl rfl rfl rfl rfl rfl rfl rfl rfl rfl rfl rfl rfl
        (by kernel_rfl) (by kernel_rfl) (by kernel_rfl) (by kernel_rfl) (by kernel_rfl) (by kernel_rfl) (by decide) (by simp) (by simp) (by simp) Try.underlying35 _ 48 route_info (by kernel_rfl) (by decide) (by decide) RouteM.length RouteM.mem
        r trivial (by kernel_rfl) rfl rfl (fun W hW => SlOf.fr (own_take Hown.out i sc hple) hW (fun _ _ h => h) (fun _ h => h)) (fun h => by have := Hnc.out h; simp only [SlV.mk.injEq] at this; exact this.2.2) (by simp [List.length_take]; omega) (by simp [List.length_take, maxLen]; omega) (Fr.refl _ _).drew ?_
      intro v0 v1 v2 s2 w9 hn2 hf9
      simp only [Act.put, List.setIfInBounds_toArray, List.set_cons_succ, List.set_cons_zero]
      have hS : ∃ z : Grow w3, w9 = z.v := inGrow hf9
      (refine any_calm 11 (by assumption) (by simp only [List.getElem?_toArray, List.getElem?_cons_succ, List.getElem?_cons_zero]; exact rfl) (by kernel_rfl) (by kernel_rfl) (by kernel_rfl) (by kernel_rfl) (by assumption) (by rfl) (by rfl) (fun K hK => ?_); go_big_quiet_op; refine hK _ ?_; clear hK K)
      refine any_leaf (hleaf _ _ _ (by kernel_rfl) ?_)
      have Hn2 := hide hn2; have Hf9 := hide hf9
      clear hL hleaf hS hn2 hf9 hg3
      obtain ⟨s2a, s2l, s2c⟩ := s2
      have Hblk9 := hide (Hblk.out.fr Hf9.out (fun h => h))
      have Hown9 := hide (Hown.out.fr Hf9.out (fun _ _ h => h))
      have hgw3 : g < w3.heap.size := by have := Hblk.out.lt; omega
      have c9 : w9.cell? ⟨g, 0, none⟩ = some (.slice sa sl sc) := Hblk9.out.cell 0
      have z9 : w9.frozen? ⟨g, 0, none⟩ = false := Hblk9.out.free 0
      obtain ⟨gs, rfl, _, _, _⟩ := own_at Hown9.out RouteM.length (List.getElem?_eq_getElem hilt)
      have hm1 : (((i : Int) + 1) * 6).toNat = (i + 1) * 6 := by omega
      by_cases hci : sc = i + 1
      all_goals
        go_wp2_with (refine wpList_append_newD (w0 := w3) (N := 6) (cells := RouteM.cells) (xs := l.take i ++ [r]) (s := ⟨s2a, s2l, s2c⟩) (q := ⟨_, _, _⟩) (ys := l.drop (i + 1)) (ok := fun _ => True) rfl (.tmp 42) (.tmp 48) 35 rfl Try.underlying35 _ 48 route_info (by kernel_rfl) (by decide) RouteM.length RouteM.mem rfl Hn2.out Hf9.out rfl (by first | exact own_drop Hown9.out _ _ (by have := Hsl.out; omega) (by have := Hsl.out; omega) | exact own_drop_end _ _ _ _ (by have := Hsl.out; omega) (by have := Hsl.out; omega)) (fun h => by first | (cases h; done) | rfl | omega) (by have := Hsl.out; simp [maxLen, List.length_take, List.length_drop]; omega) (by have := Hsl.out; simp [List.length_take, List.length_drop]; omega) ?_; intro s5 w5 hn5 hf5 hf5' hd5; have Hn5 := hide hn5; have Hf5 := hide hf5; have c5 : w5.cell? ⟨g, 0, none⟩ = some (.slice _ sl _) := (Hblk.out.fr hf5 (fun h => h)).cell 0; have z5 : w5.frozen? ⟨g, 0, none⟩ = false := (Hblk.out.fr hf5 (fun h => h)).free 0; have hg5 : g < w5.heap.size := hf5.lt hgw3; clear hn5 hf5 hf5' hd5)
        go_ret
        unfold DocTo
        rw [HA.out]
        obtain ⟨s5a, s5l, s5c⟩ := s5
        have Hblk5 := hide (Hblk.out.fr Hf5.out (fun h => h))
        have hFR : Fr F w (w5.setCell ⟨g, 0, none⟩ (.slice s5a s5l s5c)) := ((Hf3.out.tr Hf5.out).mono (fun _ _ h => h.elim)).setCell (.inr H.out.here) _
        have hown5 : OwnR (w5.setCell ⟨g, 0, none⟩ (.slice s5a s5l s5c)) ⟨s5a, s5l, s5c⟩ (l.take i ++ [r] ++ l.drop (i + 1)) :=
          Hn5.out.1.fr ((Fr.refl (oneB g) w5).setCell (p := ⟨g, 0, none⟩) (.inr rfl) _) (fun b hb e => by unfold oneB at e; subst e; have := Hn5.out.2 b hb; omega)
        refine ⟨rfl, doc_upd H.out (s' := ⟨s5a, s5l, s5c⟩) (Hblk5.out.set 0 _) hown5 hFR (fun b hb => .inr (by have := Hn5.out.2 b hb; omega)) ?_ ?_, hFR⟩
        · have := Hsl.out
          simp only [List.length_append, List.length_take, List.length_drop, List.length_cons, List.length_nil]
          omega
        · intro y hy
          rcases List.mem_append.1 hy with h1 | h1
          · rcases List.mem_append.1 h1 with h1 | h1
            · exact H.out.wf y (List.mem_of_mem_take h1)
            · rw [List.mem_singleton.1 h1]; exact hr
          · exact H.out.wf y (List.mem_of_mem_drop h1)
    | false =>
      by_cases hfull : 256 ≤ sl
      · have HA := hide (show addR l r = ⟨6, l⟩ from by unfold addR; rw [His.out, hh]; have := Hsl.out; simp; omega)
        generalize posR l r = i at *
        clear hh
        go_wp2_with fail
        go_ret
        unfold DocTo
        rw [HA.out]
        exact ⟨rfl, H.out.same Hf3.out⟩
      have HA := hide (show addR l r = ⟨0, (l.take (posR l r) ++ [r]) ++ l.drop (posR l r)⟩ from by unfold addR putR; rw [His.out, hh]; have := Hsl.out; simp; omega)
      generalize posR l r = i at *
      clear hh
      have hil : i ≤ sl := by have := Hsl.out; omega
      have hic : i ≤ sc := by omega
      go_upto_region 6 with (fail)
      have hg3 : ∀ z : Grow w3, z.v.cell? ⟨g, 0, none⟩ = some (.slice sa sl sc) := fun z => (Hblk.out.fr z.fr (fun h => h)).cell 0
      clear c0 z0
      refine any_start (fun W => ∃ z : Grow w3, W = z.v) 12 rfl (by kernel_rfl) (inGrow (Fr.refl _ _).drew) ?_
      intro L hL hleaf
      have hS : ∃ z : Grow w3, w3.drew = z.v := inGrow (Fr.refl _ _).drew
      (refine any_calm 1 (by assumption) (by simp only [List.getElem?_toArray, List.getElem?_cons_succ, List.getElem?_cons_zero]; exact rfl) (by kernel_rfl) (by kernel_rfl) (by kernel_rfl) (by kernel_rfl) (by assumption) (by rfl) (by rfl) (fun K hK => ?_); go_big_quiet_op; refine hK _ ?_; clear hK K)
      (refine any_calm 2 (by assumption) (by simp only [List.getElem?_toArray, List.getElem?_cons_succ, List.getElem?_cons_zero]; exact rfl) (by kernel_rfl) (by kernel_rfl) (by kernel_rfl) (by kernel_rfl) (by assumption) (by rfl) (by rfl) (fun K hK => ?_); go_big_quiet_op; refine hK _ ?_; clear hK K)
      (refine any_calm 3 (by assumption) (by simp only [List.getElem?_toArray, List.getElem?_cons_succ, List.getElem?_cons_zero]; exact rfl) (by kernel_rfl) (by kernel_rfl) (by kernel_rfl) (by kernel_rfl) (by assumption) (by rfl) (by rfl) (fun K hK => ?_); go_big_quiet_op; refine hK _ ?_; clear hK K)
      (refine any_calm 4 (by assumption) (by simp only [List.getElem?_toArray, List.getElem?_cons_succ, List.getElem?_cons_zero]; exact rfl) (by kernel_rfl) (by kernel_rfl) (by kernel_rfl) (by kernel_rfl) (by assumption) (by rfl) (by rfl) (fun K hK => ?_); go_big_quiet_op; refine hK _ ?_; clear hK K)
      (refine any_calm 5 (by assumption) (by simp only [List.getElem?_toArray, List.getElem?_cons_succ, List.getElem?_cons_zero]; exact rfl) (by kernel_rfl) (by kernel_rfl) (by kernel_rfl) (by kernel_rfl) (by assumption) (by rfl) (by rfl) (fun K hK => ?_); go_big_quiet_op; refine hK _ ?_; clear hK K)
      (refine any_calm 6 (by assumption) (by simp only [List.getElem?_toArray, List.getElem?_cons_succ, List.getElem?_cons_zero]; exact rfl) (by kernel_rfl) (by kernel_rfl) (by kernel_rfl) (by kernel_rfl) (by assumption) (by rfl) (by rfl) (fun K hK => ?_); go_big_quiet_op; refine hK _ ?_; clear hK K)
      refine any_load_at 8 hL (by simp only [List.getElem?_toArray, List.getElem?_cons_succ, List.getElem?_cons_zero]; exact rfl) (by kernel_rfl) (by kernel_rfl) (by kernel_rfl) (by kernel_rfl) hS (by rfl) 26 (.tmp 3) (by rfl) w.heap.size 0 (by rfl) r.cells ?hc _ Try.underlying26 rfl (by kernel_rfl) ?_
      case hc => rintro _ ⟨z, rfl⟩; exact Hc3.out.fr z.fr (fun h => h)
      simp only [Act.put, List.setIfInBounds_toArray, List.set_cons_succ, List.set_cons_zero]
      refine any_app2 (w0 := w3) (N := 6) (cells := RouteM.cells) (ok := fun _ => True) (q := ⟨sa, i, sc⟩) (ys := l.take i) 0 7 9 10 27 34 36 37 33 35 rfl rfl rfl rfl rfl rfl rfl rfl rfl rfl rfl rfl rfl rfl rfl rfl
        (by kernel_rfl) (by kernel_rfl) (by kernel_rfl) (by kernel_rfl) (by kernel_rfl) (by kernel_rfl) (by decide) (by simp) (by simp) (by simp) Try.underlying35 _ 48 route_info (by kernel_rfl) (by decide) (by decide) RouteM.length RouteM.mem
        r trivial (by kernel_rfl) rfl rfl (fun W hW => SlOf.fr (own_take Hown.out i sc hple) hW (fun _ _ h => h) (fun _ h => h)) (fun h => by have := Hnc.out h; simp only [SlV.mk.injEq] at this; exact this.2.2) (by simp [List.length_take]; omega) (by simp [List.length_take, maxLen]; omega) (Fr.refl _ _).drew ?_
      intro v0 v1 v2 s2 w9 hn2 hf9
      simp only [Act.put, List.setIfInBounds_toArray, List.set_cons_succ, List.set_cons_zero]
      have hS : ∃ z : Grow w3, w9 = z.v := inGrow hf9
      (refine any_calm 11 (by assumption) (by simp only [List.getElem?_toArray, List.getElem?_cons_succ, List.getElem?_cons_zero]; exact rfl) (by kernel_rfl) (by kernel_rfl) (by kernel_rfl) (by kernel_rfl) (by assumption) (by rfl) (by rfl) (fun K hK => ?_); go_big_quiet_op; refine hK _ ?_; clear hK K)
      refine any_leaf (hleaf _ _ _ (by kernel_rfl) ?_)
      have Hn2 := hide hn2; have Hf9 := hide hf9
      clear hL hleaf hS hn2 hf9 hg3
      obtain ⟨s2a, s2l, s2c⟩ := s2
      have Hblk9 := hide (Hblk.out.fr Hf9.out (fun h => h))
      have Hown9 := hide (Hown.out.fr Hf9.out (fun _ _ h => h))
      have hgw3 : g < w3.heap.size := by have := Hblk.out.lt; omega
      have c9 : w9.cell? ⟨g, 0, none⟩ = some (.slice sa sl sc) := Hblk9.out.cell 0
      have z9 : w9.frozen? ⟨g, 0, none⟩ = false := Hblk9.out.free 0
      have hm1 : ((i : Int) * 6).toNat = i * 6 := by omega
      rcases own_shape Hown9.out with ⟨rfl, rfl, rfl⟩ | ⟨gs, rfl⟩
      · have h0 : i = 0 := by omega
        subst h0
        all_goals
          go_wp2_with (refine wpList_append_newD (w0 := w3) (N := 6) (cells := RouteM.cells) (xs := l.take 0 ++ [r]) (s := ⟨s2a, s2l, s2c⟩) (q := ⟨_, _, _⟩) (ys := l.drop (0)) (ok := fun _ => True) rfl (.tmp 42) (.tmp 48) 35 rfl Try.underlying35 _ 48 route_info (by kernel_rfl) (by decide) RouteM.length RouteM.mem rfl Hn2.out Hf9.out rfl (by first | exact own_drop Hown9.out _ _ (by have := Hsl.out; omega) (by have := Hsl.out; omega) | exact own_drop_end _ _ _ _ (by have := Hsl.out; omega) (by have := Hsl.out; omega)) (fun h => by first | (cases h; done) | rfl | omega) (by have := Hsl.out; simp [maxLen, List.length_take, List.length_drop]; omega) (by have := Hsl.out; simp [List.length_take, List.length_drop]; omega) ?_; intro s5 w5 hn5 hf5 hf5' hd5; have Hn5 := hide hn5; have Hf5 := hide hf5; have c5 : w5.cell? ⟨g, 0, none⟩ = some (.slice _ 0 _) := (Hblk.out.fr hf5 (fun h => h)).cell 0; have z5 : w5.frozen? ⟨g, 0, none⟩ = false := (Hblk.out.fr hf5 (fun h => h)).free 0; have hg5 : g < w5.heap.size := hf5.lt hgw3; clear hn5 hf5 hf5' hd5)
          go_ret
          unfold DocTo
          rw [HA.out]
          obtain ⟨s5a, s5l, s5c⟩ := s5
          have Hblk5 := hide (Hblk.out.fr Hf5.out (fun h => h))
          have hFR : Fr F w (w5.setCell ⟨g, 0, none⟩ (.slice s5a s5l s5c)) := ((Hf3.out.tr Hf5.out).mono (fun _ _ h => h.elim)).setCell (.inr H.out.here) _
          have hown5 : OwnR (w5.setCell ⟨g, 0, none⟩ (.slice s5a s5l s5c)) ⟨s5a, s5l, s5c⟩ (l.take 0 ++ [r] ++ l.drop 0) :=
            Hn5.out.1.fr ((Fr.refl (oneB g) w5).setCell (p := ⟨g, 0, none⟩) (.inr rfl) _) (fun b hb e => by unfold oneB at e; subst e; have := Hn5.out.2 b hb; omega)
          refine ⟨rfl, doc_upd H.out (s' := ⟨s5a, s5l, s5c⟩) (Hblk5.out.set 0 _) hown5 hFR (fun b hb => .inr (by have := Hn5.out.2 b hb; omega)) ?_ ?_, hFR⟩
          · have := Hsl.out
            simp only [List.length_append, List.length_take, List.length_drop, List.length_cons, List.length_nil]
            omega
          · intro y hy
            rcases List.mem_append.1 hy with h1 | h1
            · rcases List.mem_append.1 h1 with h1 | h1
              · exact H.out.wf y (List.mem_of_mem_take h1)
              · rw [List.mem_singleton.1 h1]; exact hr
            · exact H.out.wf y (List.mem_of_mem_drop h1)
      by_cases hci : sc = i
      all_goals
        go_wp2_with (refine wpList_append_newD (w0 := w3) (N := 6) (cells := RouteM.cells) (xs := l.take i ++ [r]) (s := ⟨s2a, s2l, s2c⟩) (q := ⟨_, _, _⟩) (ys := l.drop (i)) (ok := fun _ => True) rfl (.tmp 42) (.tmp 48) 35 rfl Try.underlying35 _ 48 route_info (by kernel_rfl) (by decide) RouteM.length RouteM.mem rfl Hn2.out Hf9.out rfl (by first | exact own_drop Hown9.out _ _ (by have := Hsl.out; omega) (by have := Hsl.out; omega) | exact own_drop_end _ _ _ _ (by have := Hsl.out; omega) (by have := Hsl.out; omega)) (fun h => by first | (cases h; done) | rfl | omega) (by have := Hsl.out; simp [maxLen, List.length_take, List.length_drop]; omega) (by have := Hsl.out; simp [List.length_take, List.length_drop]; omega) ?_; intro s5 w5 hn5 hf5 hf5' hd5; have Hn5 := hide hn5; have Hf5 := hide hf5; have c5 : w5.cell? ⟨g, 0, none⟩ = some (.slice _ sl _) := (Hblk.out.fr hf5 (fun h => h)).cell 0; have z5 : w5.frozen? ⟨g, 0, none⟩ = false := (Hblk.out.fr hf5 (fun h => h)).free 0; have hg5 : g < w5.heap.size := hf5.lt hgw3; clear hn5 hf5 hf5' hd5)
        go_ret
        unfold DocTo
        rw [HA.out]
        obtain ⟨s5a, s5l, s5c⟩ := s5
        have Hblk5 := hide (Hblk.out.fr Hf5.out (fun h => h))
        have hFR : Fr F w (w5.setCell ⟨g, 0, none⟩ (.slice s5a s5l s5c)) := ((Hf3.out.tr Hf5.out).mono (fun _ _ h => h.elim)).setCell (.inr H.out.here) _
        have hown5 : OwnR (w5.setCell ⟨g, 0, none⟩ (.slice s5a s5l s5c)) ⟨s5a, s5l, s5c⟩ (l.take i ++ [r] ++ l.drop i) :=
          Hn5.out.1.fr ((Fr.refl (oneB g) w5).setCell (p := ⟨g, 0, none⟩) (.inr rfl) _) (fun b hb e => by unfold oneB at e; subst e; have := Hn5.out.2 b hb; omega)
        refine ⟨rfl, doc_upd H.out (s' := ⟨s5a, s5l, s5c⟩) (Hblk5.out.set 0 _) hown5 hFR (fun b hb => .inr (by have := Hn5.out.2 b hb; omega)) ?_ ?_, hFR⟩
        · have := Hsl.out
          simp only [List.length_append, List.length_take, List.length_drop, List.length_cons, List.length_nil]
          omega
        · intro y hy
          rcases List.mem_append.1 hy with h1 | h1
          · rcases List.mem_append.1 h1 with h1 | h1
            · exact H.out.wf y (List.mem_of_mem_take h1)
            · rw [List.mem_singleton.1 h1]; exact hr
          · exact H.out.wf y (List.mem_of_mem_drop h1)
end Go.Proofs.Ytdmghildjadjeaa
