/- The law TrieBest, walked: it returns true. -/
import Derived.Test.YtgjabgneapdbiaaTrieSetLaw
namespace Go.Proofs.Ytgjabgneapdbiaa
open Go.RowKit Go.BigFrame
set_option linter.unusedSimpArgs false
set_option linter.unusedVariables false
attribute [local irreducible] wpMix wpAnyG

theorem own_at2 {α : Type} {w : World} {e : TypeId} {N : Nat} {cells : α → List Value} {s : SlV} {l : List α} (hN : ∀ x, (cells x).length = N) (h : OwnL w e N cells s l) {k : Nat} {x : α} (hx : l[k]? = some x) :
    ∃ g, s.a = some ⟨g, 0, none⟩ ∧ CellsAt w g (k * N) (cells x) := by
  obtain ⟨g, h1, _, h2, _⟩ := own_at h hN hx
  exact ⟨g, h1, h2⟩
theorem long_some {l : List EntM} (hs : SortedE l) (hok : ∀ x ∈ l, okP x.p) {a : Nat} (ha : a < 4294967296) {x : EntM} (hx : longE l a = some x) :
    x ∈ l ∧ hasB x.p.addr x.p.len a = true ∧ (∀ y ∈ l, hasB y.p.addr y.p.len a = true → y.p.len ≤ x.p.len) ∧ getE l x.p = some x ∧ ∃ n, (pathX l (addrP a)).length = n + 1 ∧ (pathX l (addrP a))[n]? = some x := by
  obtain ⟨h1, h2, h3⟩ := (longE_is hs hok ha).some_ x hx
  refine ⟨h1, h2, h3, (getE_some hs).2 ⟨h1, rfl⟩, ?_⟩
  unfold longE at hx
  obtain ⟨ys, e⟩ := List.getLast?_eq_some_iff.1 hx
  refine ⟨ys.length, by rw [e]; simp, by rw [e]; simp⟩

def BestAt (w0 : World) (n : Nat) (i : Value) (wr : World) : Prop := ∃ k : Nat, k ≤ n ∧ i = .int .i64 k ∧ Fr noB w0 wr

set_option maxRecDepth 100000 in
set_option maxHeartbeats 4000000 in
theorem law_best (s : SlV) (xs : List TActM) (a : Nat) (ha : a < 4294967296) (w : World) (hs : TActs w s xs) :
    Calls Try.prog 10 #[.slice s.a s.len s.cap, .int .u32 (a : Nat)] w fun e w' => e = .returned (.bool true) ∧ Fr noB w w' := by
  have Hs := hide hs
  clear hs
  go_enter Try.func10, Try.ntmps10
  go_wp2_with fail
  refine (law_laid s xs w Hs.out).mono ?_
  rintro e w2 ⟨l, g, gx, rfl, hlen, hb⟩
  obtain ⟨hf2, F, G, htr, _⟩ := hb
  have Hf2 := hide hf2; have Htr := hide htr
  clear hf2 htr
  have HL := hide (longE_is Htr.out.sorted Htr.out.ok ha)
  cases hL : longE l a with
  | none =>
    have Hno := hide (HL.out.none_ hL)
    have Hpath := hide (show pathX l (addrP a) = [] by unfold longE at hL; simpa using hL)
    have HL2 := hide hL
    clear hL
    go_wp2_with fail
    refine (trie_long w2 F g l 161 Htr.out a ha).mono ?_
    rintro e w3 ⟨rfl, hf3⟩
    rw [HL2.out]
    unfold longV
    have Hf3 := hide hf3
    clear hf3
    go_upto_region 5 with (refine wpList_store_new rfl 28 _ _ rfl _ _ (PrefixM.cells _) _ rfl rfl (by simp) (by kernel_rfl) rfl (by kernel_rfl) ?_)
    refine wp_gen (fun W => CellsAt W w3.heap.size 0 (PrefixM.mk 0 0).cells ∧ Fr noB w2 W) ⟨cells_new _ _ _ rfl, Hf3.out.alloc _⟩ ?_
    rintro w4 ⟨hc4, hf4⟩
    have Hc4 := hide hc4; have Hf4 := hide hf4
    clear hc4 hf4
    go_wp2_with fail
    refine (trie_Walk w4 F g l 161 (Htr.out.frN Hf4.out)).mono ?_
    rintro e w5 ⟨⟨s5a, s5l, s5c⟩, rfl, hn5, hf5⟩
    have hl5 : s5l = l.length := by have := hn5.len; simpa using this
    have Hn5 := hide hn5; have Hf5 := hide (Hf4.out.tr hf5); have Hl5 := hide hl5
    have Hc5 := hide (Hc4.out.fr hf5 (fun h => h))
    have h80 : s5l ≤ 80 := by omega
    clear hn5 hf5 hl5
    go_upto_region 7 with (fail)
    go_loopw [11] (BestAt w5 l.length) (fun i _ => s5l - (intOf i).toNat)
    case atStart => exact ⟨0, Nat.zero_le _, rfl, Fr.refl _ _⟩
    case round =>
      obtain ⟨k, hk, rfl, hf⟩ := hrel
      have Hf := hide hf
      clear hf
      by_cases hlt : k < s5l
      · have hx : l[k]? = some (l[k]'(by have := Hl5.out; omega)) := List.getElem?_eq_getElem _
        generalize l[k] = x at hx
        obtain ⟨b, hb, hcx⟩ := own_at2 PrefixM.length (Hn5.out.fr Hf.out).1 (show (l.map (·.p))[k]? = some x.p by rw [List.getElem?_map, hx]; rfl)
        simp only at hb
        subst hb
        have hxl := List.mem_of_getElem? hx
        have hxw := (Htr.out.ok x hxl).2.1
        have Hhas := hide (Hno.out x hxl)
        have Hcx := hide hcx
        have hmul : ((k : Int) * 2).toNat = k * 2 := by omega
        clear hx hcx hk
        go_upto_region 9 with (fail)
        refine wp_region_mix (fun W => ∃ z : Grow wr, W = z.v) (by kernel_rfl) (by kernel_rfl) (inGrow (Fr.refl _ _).drew) ?_
        iterate 3 (first | (refine wpMix_skip rfl ?_; simp only [Act.put, List.setIfInBounds_toArray, List.set_cons_succ, List.set_cons_zero]) | (refine wpMix_calm rfl rfl (fun K hK => ?_); go_big_quiet_op; refine hK _ ?_; clear hK K))
        refine wpMix_load_atw rfl 28 (.tmp 39) rfl b (k * 2) (by go_simp) x.p.cells (fun W hW => by obtain ⟨z, rfl⟩ := hW; exact Hcx.out.fr z.fr (fun h => h)) _ Try.underlying28 rfl (by kernel_rfl) ?_
        simp only [Act.put, List.setIfInBounds_toArray, List.set_cons_succ, List.set_cons_zero]
        iterate 1 (first | (refine wpMix_skip rfl ?_; simp only [Act.put, List.setIfInBounds_toArray, List.set_cons_succ, List.set_cons_zero]) | (refine wpMix_calm rfl rfl (fun K hK => ?_); go_big_quiet_op; refine hK _ ?_; clear hK K))
        refine wpMix_spine rfl rfl (fun K hK => ?_); go_wp2_with fail
        refine (ref3_Has x.p.addr a x.p.len hxw ha _).mono ?_
        rintro e w6 ⟨rfl, f6⟩
        rw [Hhas.out]
        have f6 : Fr noB wr w6 := (Fr.refl _ _).drew.tr f6
        have Hf6 := hide (Hf.out.tr f6)
        refine hK _ _ rfl (inGrow f6) ?_
        clear hK K f6
        repeat (first | (refine wpMix_skip rfl ?_; simp only [Act.put, List.setIfInBounds_toArray, List.set_cons_succ, List.set_cons_zero]) | (refine wpMix_calm rfl rfl (fun K hK => ?_); go_big_quiet_op; refine hK _ ?_; clear hK K))
        refine wpMix_nil ?_
        go_wp2_with fail
        go_roundw
        case rel => exact ⟨k + 1, by have := Hl5.out; omega, by go_num, Hf6.out⟩
        case measure => simp [intOf]; omega
      · have Hf0 := hide (Hf5.out.tr Hf.out)
        go_wp2_with (refine wpList_build_as rfl 28 _ rfl (addrP a).cells.toArray (by kernel_rfl) ?_)
        refine (trie_covers wr F g l 161 (Htr.out.frN Hf0.out) (addrP a) (addrP_ok ha).2).mono ?_
        rintro e w6 ⟨⟨s6a, s6l, s6c⟩, rfl, hn6, hf6⟩
        have hl6 : s6l = 0 := by have := hn6.len; rw [Hpath.out] at this; simpa using this
        subst hl6
        have Hf6 := hide (Hf0.out.tr hf6)
        clear hn6 hf6
        go_wp2_with fail
        refine (law_known w6).mono ?_
        rintro e w7 ⟨rfl, hf7⟩
        have Hf7 := hide (Hf6.out.tr hf7)
        clear hf7
        go_wp2_with fail
        go_ret
        exact ⟨rfl, Hf2.out.tr Hf7.out⟩
  | some y =>
    obtain ⟨hyl, hyh, hymax, hyg, n, hpn, hpy⟩ := long_some Htr.out.sorted Htr.out.ok ha hL
    have Hmax := hide hymax; have Hyg := hide hyg; have Hyh := hide hyh; have Hpn := hide hpn; have Hpy := hide hpy
    have HL2 := hide hL
    have Hyok := hide (Htr.out.ok y hyl)
    have hn80 : n ≤ 80 := by have := pathX_len l (addrP a); omega
    clear hL hymax hyg hyh hpn hpy hyl
    go_wp2_with fail
    refine (trie_long w2 F g l 161 Htr.out a ha).mono ?_
    rintro e w3 ⟨rfl, hf3⟩
    rw [HL2.out]
    unfold longV
    have Hf3 := hide hf3
    clear hf3
    go_upto_region 5 with (refine wpList_store_new rfl 28 _ _ rfl _ _ (PrefixM.cells _) _ rfl rfl (by simp) (by kernel_rfl) rfl (by kernel_rfl) ?_)
    refine wp_gen (fun W => CellsAt W w3.heap.size 0 y.p.cells ∧ Fr noB w2 W) ⟨cells_new _ _ _ rfl, Hf3.out.alloc _⟩ ?_
    rintro w4 ⟨hc4, hf4⟩
    have Hc4 := hide hc4; have Hf4 := hide hf4
    clear hc4 hf4
    go_wp2_with fail
    refine (trie_Walk w4 F g l 161 (Htr.out.frN Hf4.out)).mono ?_
    rintro e w5 ⟨⟨s5a, s5l, s5c⟩, rfl, hn5, hf5⟩
    have hl5 : s5l = l.length := by have := hn5.len; simpa using this
    have Hn5 := hide hn5; have Hf5 := hide (Hf4.out.tr hf5); have Hl5 := hide hl5
    have Hc5 := hide (Hc4.out.fr hf5 (fun h => h))
    have h80 : s5l ≤ 80 := by omega
    clear hn5 hf5 hl5
    go_upto_region 7 with (fail)
    go_loopw [11] (BestAt w5 l.length) (fun i _ => s5l - (intOf i).toNat)
    case atStart => exact ⟨0, Nat.zero_le _, rfl, Fr.refl _ _⟩
    case round =>
      obtain ⟨k, hk, rfl, hf⟩ := hrel
      have Hf := hide hf
      clear hf
      by_cases hlt : k < s5l
      · have hx : l[k]? = some (l[k]'(by have := Hl5.out; omega)) := List.getElem?_eq_getElem _
        generalize l[k] = x at hx
        obtain ⟨b, hb, hcx⟩ := own_at2 PrefixM.length (Hn5.out.fr Hf.out).1 (show (l.map (·.p))[k]? = some x.p by rw [List.getElem?_map, hx]; rfl)
        simp only at hb
        subst hb
        have hxl := List.mem_of_getElem? hx
        have hxw := (Htr.out.ok x hxl).2.1
        have Hmx := hide (Hmax.out x hxl)
        have Hcx := hide hcx
        have hmul : ((k : Int) * 2).toNat = k * 2 := by omega
        have x1 : ∀ z : Grow wr, z.v.cell? ⟨b, k * 2 + 1, none⟩ = some (.int .i64 x.p.len) := fun z => by have := (Hcx.out.fr z.fr (fun h => h)) 1 _ rfl; exact this
        have y1 : ∀ z : Grow wr, z.v.cell? ⟨w3.heap.size, 1, none⟩ = some (.int .i64 y.p.len) := fun z => by have := ((Hc5.out.fr Hf.out (fun h => h)).fr z.fr (fun h => h)) 1 _ rfl; rwa [Nat.zero_add] at this
        clear hx hcx hk
        go_upto_region 9 with (fail)
        refine wp_region_mix (fun W => ∃ z : Grow wr, W = z.v) (by kernel_rfl) (by kernel_rfl) (inGrow (Fr.refl _ _).drew) ?_
        iterate 3 (first | (refine wpMix_skip rfl ?_; simp only [Act.put, List.setIfInBounds_toArray, List.set_cons_succ, List.set_cons_zero]) | (refine wpMix_calm rfl rfl (fun K hK => ?_); go_big_quiet_op; refine hK _ ?_; clear hK K))
        refine wpMix_load_atw rfl 28 (.tmp 39) rfl b (k * 2) (by go_simp) x.p.cells (fun W hW => by obtain ⟨z, rfl⟩ := hW; exact Hcx.out.fr z.fr (fun h => h)) _ Try.underlying28 rfl (by kernel_rfl) ?_
        simp only [Act.put, List.setIfInBounds_toArray, List.set_cons_succ, List.set_cons_zero]
        iterate 1 (first | (refine wpMix_skip rfl ?_; simp only [Act.put, List.setIfInBounds_toArray, List.set_cons_succ, List.set_cons_zero]) | (refine wpMix_calm rfl rfl (fun K hK => ?_); go_big_quiet_op; refine hK _ ?_; clear hK K))
        refine wpMix_spine rfl rfl (fun K hK => ?_); go_wp2_with fail
        refine (ref3_Has x.p.addr a x.p.len hxw ha _).mono ?_
        rintro e w6 ⟨rfl, f6⟩
        have f6 : Fr noB wr w6 := (Fr.refl _ _).drew.tr f6
        have Hf6 := hide (Hf.out.tr f6)
        refine hK _ _ rfl (inGrow f6) ?_
        clear hK K f6
        cases hh : hasB x.p.addr x.p.len a with
        | false =>
          repeat (first | (refine wpMix_skip rfl ?_; simp only [Act.put, List.setIfInBounds_toArray, List.set_cons_succ, List.set_cons_zero]) | (refine wpMix_calm rfl rfl (fun K hK => ?_); go_big_quiet_op; refine hK _ ?_; clear hK K))
          refine wpMix_nil ?_
          clear x1 y1 hh
          go_wp2_with fail
          go_roundw
          case rel => exact ⟨k + 1, by have := Hl5.out; omega, by go_num, Hf6.out⟩
          case measure => simp [intOf]; omega
        | true =>
          have hle : ¬ x.p.len > y.p.len := by have := Hmx.out hh; omega
          clear hh
          repeat (first | (refine wpMix_skip rfl ?_; simp only [Act.put, List.setIfInBounds_toArray, List.set_cons_succ, List.set_cons_zero]) | (refine wpMix_calm rfl rfl (fun K hK => ?_); go_big_quiet_op; refine hK _ ?_; clear hK K))
          refine wpMix_nil ?_
          clear x1 y1 hle
          go_wp2_with fail
          go_roundw
          case rel => exact ⟨k + 1, by have := Hl5.out; omega, by go_num, Hf6.out⟩
          case measure => simp [intOf]; omega
      · have Hf0 := hide (Hf5.out.tr Hf.out)
        have Hc0 := hide (Hc5.out.fr Hf.out (fun h => h))
        go_wp2_with (refine wpList_build_as rfl 28 _ rfl (addrP a).cells.toArray (by kernel_rfl) ?_)
        refine (trie_covers wr F g l 161 (Htr.out.frN Hf0.out) (addrP a) (addrP_ok ha).2).mono ?_
        rintro e w6 ⟨⟨s6a, s6l, s6c⟩, rfl, hn6, hf6⟩
        have hl6 : s6l = n + 1 := by have := hn6.len; rw [List.length_map, Hpn.out] at this; exact this
        subst hl6
        obtain ⟨b, hb, hcx⟩ := own_at2 PrefixM.length hn6.1 (show ((pathX l (addrP a)).map (·.p))[n]? = some y.p by rw [List.getElem?_map, Hpy.out]; rfl)
        simp only at hb
        subst hb
        have hc6 : CellsAt w6 w3.heap.size 0 y.p.cells := Hc0.out.fr hf6 (fun h => h)
        have Hcb := hide hcx; have Hc6 := hide hc6
        have Hf6 := hide (Hf0.out.tr hf6)
        clear hn6 hf6 hcx
        go_wp2_with (refine wpList_load_atw rfl 28 _ rfl _ _ rfl (PrefixM.cells _) (by (repeat (first | assumption | exact cells_new _ _ _ (by simp) | refine CellsAt.alloc ?_ _ | refine CellsAt.drew ?_ | refine CellsAt.drewN ?_ _))) _ Try.underlying28 rfl (by kernel_rfl) ?_)
        refine (trie_get w6 F g l 161 (Htr.out.frN Hf6.out) y.p Hyok.out.2).mono ?_
        rintro e w7 ⟨rfl, hf7⟩
        rw [Hyg.out]
        unfold getV
        have Hc7 := hide (Hc6.out.fr hf7 (fun h => h)); have Hb7 := hide (Hcb.out.fr hf7 (fun h => h)); have Hf7 := hide (Hf6.out.tr hf7)
        have hvv : (y.v == y.v) = true := by simp
        have hmul : ((n : Int) * 2).toNat = n * 2 := by omega
        clear hf7 hc6
        go_upto_region 15 with (fail)
        refine wp_region_mix (fun W => ∃ z : Grow w7, W = z.v) (by kernel_rfl) (by kernel_rfl) (inGrow (Fr.refl _ _).drew) ?_
        iterate 7 (first | (refine wpMix_skip rfl ?_; simp only [Act.put, List.setIfInBounds_toArray, List.set_cons_succ, List.set_cons_zero]) | (refine wpMix_calm rfl rfl (fun K hK => ?_); go_big_quiet_op; refine hK _ ?_; clear hK K))
        refine wpMix_load_atw rfl 28 (.tmp 7) rfl w3.heap.size 0 rfl y.p.cells (fun W hW => by obtain ⟨z, rfl⟩ := hW; exact Hc7.out.fr z.fr (fun h => h)) _ Try.underlying28 rfl (by kernel_rfl) ?_
        simp only [Act.put, List.setIfInBounds_toArray, List.set_cons_succ, List.set_cons_zero]
        iterate 1 (first | (refine wpMix_skip rfl ?_; simp only [Act.put, List.setIfInBounds_toArray, List.set_cons_succ, List.set_cons_zero]) | (refine wpMix_calm rfl rfl (fun K hK => ?_); go_big_quiet_op; refine hK _ ?_; clear hK K))
        refine wpMix_spine rfl rfl (fun K hK => ?_); go_wp2_with fail
        refine (ref3_Has y.p.addr a y.p.len Hyok.out.2.1 ha _).mono ?_
        rintro e w8 ⟨rfl, f8⟩
        rw [Hyh.out]
        have f8 : Fr noB w7 w8 := (Fr.refl _ _).drew.tr f8
        have Hf8 := hide (Hf7.out.tr f8); have F8 := hide f8
        refine hK _ _ rfl (inGrow f8) ?_
        clear hK K f8
        iterate 12 (first | (refine wpMix_skip rfl ?_; simp only [Act.put, List.setIfInBounds_toArray, List.set_cons_succ, List.set_cons_zero]) | (refine wpMix_calm rfl rfl (fun K hK => ?_); go_big_quiet_op; refine hK _ ?_; clear hK K))
        refine wpMix_load_atw rfl 28 (.tmp 96) rfl b (n * 2) (by go_simp) y.p.cells (fun W hW => by obtain ⟨z, rfl⟩ := hW; exact Hb7.out.fr z.fr (fun h => h)) _ Try.underlying28 rfl (by kernel_rfl) ?_
        simp only [Act.put, List.setIfInBounds_toArray, List.set_cons_succ, List.set_cons_zero]
        refine wpMix_load_atw rfl 28 (.tmp 7) rfl w3.heap.size 0 rfl y.p.cells (fun W hW => by obtain ⟨z, rfl⟩ := hW; exact Hc7.out.fr z.fr (fun h => h)) _ Try.underlying28 rfl (by kernel_rfl) ?_
        simp only [Act.put, List.setIfInBounds_toArray, List.set_cons_succ, List.set_cons_zero]
        refine wpMix_eqs rfl false 28 (.tmp 97) (.tmp 98) rfl y.p.cells.toArray y.p.cells.toArray rfl rfl true (by kernel_rfl) (fun w => by rw [prefix_equal, decide_eq_true rfl]) ?_
        simp only [Act.put, List.setIfInBounds_toArray, List.set_cons_succ, List.set_cons_zero]
        iterate 2 (first | (refine wpMix_skip rfl ?_; simp only [Act.put, List.setIfInBounds_toArray, List.set_cons_succ, List.set_cons_zero]) | (refine wpMix_calm rfl rfl (fun K hK => ?_); go_big_quiet_op; refine hK _ ?_; clear hK K))
        refine wpMix_spine rfl rfl (fun K hK => ?_); go_wp2_with fail
        refine (law_known w8).mono ?_
        rintro e w9 ⟨rfl, f9⟩
        have Hf9 := hide (Hf8.out.tr f9)
        refine hK _ _ rfl (inGrow (F8.out.tr f9)) ?_
        clear hK K
        repeat (first | (refine wpMix_skip rfl ?_; simp only [Act.put, List.setIfInBounds_toArray, List.set_cons_succ, List.set_cons_zero]) | (refine wpMix_calm rfl rfl (fun K hK => ?_); go_big_quiet_op; refine hK _ ?_; clear hK K))
        refine wpMix_nil ?_
        go_wp2_with fail
        go_ret
        exact ⟨rfl, Hf2.out.tr Hf9.out⟩
end Go.Proofs.Ytgjabgneapdbiaa
