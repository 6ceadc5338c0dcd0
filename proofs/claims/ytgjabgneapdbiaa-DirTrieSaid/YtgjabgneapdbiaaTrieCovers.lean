/- ref3 Covers; the law TrieCovers, walked: it returns true. -/
import Derived.Test.YtgjabgneapdbiaaTrieBest
namespace Go.Proofs.Ytgjabgneapdbiaa
open Go.RowKit Go.BigFrame
set_option linter.unusedSimpArgs false
set_option linter.unusedVariables false
attribute [local irreducible] wpMix wpAnyG

set_option maxHeartbeats 1000000 in
theorem ref3_Covers (p q : PrefixM) (hp : p.wf) (hq : q.wf) (w : World) :
    Calls Try.prog 32 #[.agg p.cells.toArray, .agg q.cells.toArray] w fun e w' => e = .returned (.bool (covB p q)) ∧ Fr noB w w' := by
  go_enter Try.func32, Try.ntmps32
  go_upto_region 1 with (fail)
  refine wp_gen (fun W => CellsAt W w.heap.size 0 p.cells ∧ CellsAt W (w.heap.size + 1) 0 q.cells ∧ Fr noB w W) ⟨by (repeat (first | assumption | exact cells_new _ _ _ (by simp) | refine CellsAt.alloc ?_ _ | refine CellsAt.drew ?_ | refine CellsAt.drewN ?_ _)), by (repeat (first | assumption | exact cells_new _ _ _ (by simp) | refine CellsAt.alloc ?_ _ | refine CellsAt.drew ?_ | refine CellsAt.drewN ?_ _)), ((Fr.refl _ _).alloc _).alloc _⟩ ?_
  rintro w1 ⟨hc, hd, hf⟩
  have Hf := hide hf
  have p1 : ∀ z : Grow w1, z.v.cell? ⟨w.heap.size, 1, none⟩ = some (.int .i64 p.len) := fun z => by have := (hc.fr z.fr (fun h => h)) 1 _ rfl; rwa [Nat.zero_add] at this
  have q0 : ∀ z : Grow w1, z.v.cell? ⟨w.heap.size + 1, 0, none⟩ = some (.int .u32 (q.addr : Nat)) := fun z => by have := (hd.fr z.fr (fun h => h)) 0 _ rfl; rwa [Nat.zero_add] at this
  have q1 : ∀ z : Grow w1, z.v.cell? ⟨w.heap.size + 1, 1, none⟩ = some (.int .i64 q.len) := fun z => by have := (hd.fr z.fr (fun h => h)) 1 _ rfl; rwa [Nat.zero_add] at this
  clear hf hd
  cases hd : decide (heldI p.len ≤ heldI q.len) with
  | false =>
    have HR := hide (show covB p q = false from by unfold covB; rw [hd]; rfl)
    refine wp_region_mix (fun W => ∃ z : Grow w1, W = z.v) (by kernel_rfl) (by kernel_rfl) (inGrow (Fr.refl _ _).drew) ?_
    iterate 2 (first | (refine wpMix_skip rfl ?_; simp only [Act.put, List.setIfInBounds_toArray, List.set_cons_succ, List.set_cons_zero]) | (refine wpMix_calm rfl rfl (fun K hK => ?_); go_big_quiet_op; refine hK _ ?_; clear hK K))
    refine wpMix_spine rfl rfl (fun K hK => ?_); go_wp2_with fail
    refine (ref3_hold p.len _).mono ?_
    rintro e w' ⟨rfl, rfl⟩
    refine hK _ _ rfl (inGrow (Fr.refl _ _).drew) ?_
    clear hK K
    iterate 2 (first | (refine wpMix_skip rfl ?_; simp only [Act.put, List.setIfInBounds_toArray, List.set_cons_succ, List.set_cons_zero]) | (refine wpMix_calm rfl rfl (fun K hK => ?_); go_big_quiet_op; refine hK _ ?_; clear hK K))
    refine wpMix_spine rfl rfl (fun K hK => ?_); go_wp2_with fail
    refine (ref3_hold q.len _).mono ?_
    rintro e w' ⟨rfl, rfl⟩
    refine hK _ _ rfl (inGrow (Fr.refl _ _).drew) ?_
    clear hK K
    repeat (first | (refine wpMix_skip rfl ?_; simp only [Act.put, List.setIfInBounds_toArray, List.set_cons_succ, List.set_cons_zero]) | (refine wpMix_calm rfl rfl (fun K hK => ?_); go_big_quiet_op; refine hK _ ?_; clear hK K))
    refine wpMix_nil ?_
    clear p1 q0 q1 hc hd
    go_wp2_with fail
    go_ret
    exact ⟨ret_bool HR.out.symm, Hf.out.drew⟩
  | true =>
    have HR := hide (show covB p q = hasB p.addr p.len q.addr from by unfold covB; rw [hd]; rfl)
    refine wp_region_mix (fun W => ∃ z : Grow w1, W = z.v) (by kernel_rfl) (by kernel_rfl) (inGrow (Fr.refl _ _).drew) ?_
    iterate 2 (first | (refine wpMix_skip rfl ?_; simp only [Act.put, List.setIfInBounds_toArray, List.set_cons_succ, List.set_cons_zero]) | (refine wpMix_calm rfl rfl (fun K hK => ?_); go_big_quiet_op; refine hK _ ?_; clear hK K))
    refine wpMix_spine rfl rfl (fun K hK => ?_); go_wp2_with fail
    refine (ref3_hold p.len _).mono ?_
    rintro e w' ⟨rfl, rfl⟩
    refine hK _ _ rfl (inGrow (Fr.refl _ _).drew) ?_
    clear hK K
    iterate 2 (first | (refine wpMix_skip rfl ?_; simp only [Act.put, List.setIfInBounds_toArray, List.set_cons_succ, List.set_cons_zero]) | (refine wpMix_calm rfl rfl (fun K hK => ?_); go_big_quiet_op; refine hK _ ?_; clear hK K))
    refine wpMix_spine rfl rfl (fun K hK => ?_); go_wp2_with fail
    refine (ref3_hold q.len _).mono ?_
    rintro e w' ⟨rfl, rfl⟩
    refine hK _ _ rfl (inGrow (Fr.refl _ _).drew) ?_
    clear hK K
    iterate 2 (first | (refine wpMix_skip rfl ?_; simp only [Act.put, List.setIfInBounds_toArray, List.set_cons_succ, List.set_cons_zero]) | (refine wpMix_calm rfl rfl (fun K hK => ?_); go_big_quiet_op; refine hK _ ?_; clear hK K))
    (refine wpMix_load_atw rfl 28 (.tmp 2) rfl _ _ rfl (PrefixM.cells _) (fun W hW => by obtain ⟨z, rfl⟩ := hW; exact CellsAt.fr (by (repeat (first | assumption | exact cells_new _ _ _ (by simp) | refine CellsAt.alloc ?_ _ | refine CellsAt.drew ?_ | refine CellsAt.drewN ?_ _))) z.fr (fun h => h)) _ Try.underlying28 rfl (by kernel_rfl) ?_; simp only [Act.put, List.setIfInBounds_toArray, List.set_cons_succ, List.set_cons_zero])
    iterate 2 (first | (refine wpMix_skip rfl ?_; simp only [Act.put, List.setIfInBounds_toArray, List.set_cons_succ, List.set_cons_zero]) | (refine wpMix_calm rfl rfl (fun K hK => ?_); go_big_quiet_op; refine hK _ ?_; clear hK K))
    refine wpMix_spine rfl rfl (fun K hK => ?_); go_wp2_with fail
    refine (ref3_Has p.addr q.addr p.len hp.1 hq.1 _).mono ?_
    rintro e w2 ⟨rfl, f2⟩
    have f2 : Fr noB w1 w2 := (Fr.refl _ _).drew.tr f2
    have Hf2 := hide (Hf.out.tr f2)
    refine hK _ _ rfl (inGrow f2) ?_
    clear hK K f2
    repeat (first | (refine wpMix_skip rfl ?_; simp only [Act.put, List.setIfInBounds_toArray, List.set_cons_succ, List.set_cons_zero]) | (refine wpMix_calm rfl rfl (fun K hK => ?_); go_big_quiet_op; refine hK _ ?_; clear hK K))
    refine wpMix_nil ?_
    clear p1 q0 q1 hc hd
    go_wp2_with fail
    go_ret
    exact ⟨ret_bool HR.out.symm, Hf2.out⟩

/-! ### What covers a prefix, in order -/
theorem path_step {l : List EntM} (hs : SortedE l) (hok : ∀ x ∈ l, okP x.p) {q : PrefixM} (hq : okP q) {k : Nat} {x y : EntM} (hx : (pathX l q)[k]? = some x) (hy : (pathX l q)[k + 1]? = some y) : x.p.len < y.p.len ∧ covB x.p y.p = true := by
  have hxm := List.mem_of_getElem? hx
  have hym := List.mem_of_getElem? hy
  have hox := hok _ (pathX_mem hxm).1
  have hoy := hok _ (pathX_mem hym).1
  have hcx := (covB_iff hox hq).1 (pathX_mem hxm).2
  have hcy := (covB_iff hoy hq).1 (pathX_mem hym).2
  have hb : befE x y := (pathX_sorted hs q).get (Nat.lt_succ_self k) hx hy
  have s1 := cov_sub hox hq hcx
  have s2 := cov_sub hoy hq hcy
  have sp := szP_pos q
  have hlt : x.p.len < y.p.len := by
    rcases Int.lt_or_le x.p.len y.p.len with h2 | h2
    · exact h2
    · exfalso
      have hyx : cov y.p x.p := by
        rcases nest hoy hox h2 with c | c | c
        · exact c
        · omega
        · omega
      unfold befE befP at hb
      have := hyx.2.1
      rcases hb with hb | hb <;> omega
  refine ⟨hlt, (covB_iff hox hoy).2 ?_⟩
  rcases nest hox hoy (Int.le_of_lt hlt) with c | c | c
  · exact c
  · omega
  · omega

set_option maxRecDepth 100000 in
set_option maxHeartbeats 4000000 in
theorem law_covers (s : SlV) (xs : List TActM) (p : PrefixM) (hp : p.wf) (w : World) (hs : TActs w s xs) :
    Calls Try.prog 6 #[.slice s.a s.len s.cap, .agg p.cells.toArray] w fun e w' => e = .returned (.bool true) ∧ Fr noB w w' := by
  have Hs := hide hs; have Hp := hide hp; have Hq := hide (okP.norm hp)
  clear hs hp
  go_enter Try.func6, Try.ntmps6
  go_upto_region 1 with (fail)
  refine wp_gen (fun W => CellsAt W w.heap.size 0 p.cells ∧ Fr noB w W) ⟨by (repeat (first | assumption | exact cells_new _ _ _ (by simp) | refine CellsAt.alloc ?_ _ | refine CellsAt.drew ?_ | refine CellsAt.drewN ?_ _)), (Fr.refl _ _).alloc _⟩ ?_
  rintro w1 ⟨hc1, hf1⟩
  have Hc1 := hide hc1; have Hf1 := hide hf1
  clear hc1 hf1
  go_wp2_with fail
  refine (law_laid s xs w1 (SlOf.fr Hs.out Hf1.out (fun _ _ h => h) (fun _ h => h))).mono ?_
  rintro e w2 ⟨l, g, gx, rfl, hlen, hb⟩
  obtain ⟨hf2, F, G, htr, _⟩ := hb
  have Hf2 := hide (Hf1.out.tr hf2); have Htr := hide htr
  have hc2 : CellsAt w2 w.heap.size 0 p.cells := Hc1.out.fr hf2 (fun h => h)
  have Hc2 := hide hc2
  clear hf2 htr
  go_wp2_with (refine wpList_load_atw rfl 28 _ rfl _ _ rfl (PrefixM.cells _) (by (repeat (first | assumption | exact cells_new _ _ _ (by simp) | refine CellsAt.alloc ?_ _ | refine CellsAt.drew ?_ | refine CellsAt.drewN ?_ _))) _ Try.underlying28 rfl (by kernel_rfl) ?_)
  refine (ref3_Norm p Hp.out w2).mono ?_
  rintro e w3 ⟨rfl, hf3⟩
  have Hf3 := hide hf3
  clear hf3 hc2
  go_wp2_with fail
  refine (trie_covers w3 F g l 161 (Htr.out.frN Hf3.out) (normP p) Hq.out.2).mono ?_
  rintro e w4 ⟨⟨s4a, s4l, s4c⟩, rfl, hn4, hf4⟩
  have hl4 : s4l = (pathX l (normP p)).length := by have := hn4.len; simpa using this
  have h80 : s4l ≤ 80 := by have := pathX_len l (normP p); omega
  have Hn4 := hide hn4; have Hl4 := hide hl4; have Hf4 := hide (Hf3.out.tr hf4)
  have Hc4 := hide (Hc2.out.fr Hf4.out (fun h => h))
  clear hn4 hl4 hf4
  go_wp2_with fail
  go_loopw [8] (BestAt w4 (pathX l (normP p)).length) (fun i _ => s4l - (intOf i).toNat)
  case atStart => exact ⟨0, Nat.zero_le _, rfl, Fr.refl _ _⟩
  case round =>
    obtain ⟨k, hk, rfl, hf⟩ := hrel
    have Hf := hide hf
    clear hf
    by_cases hlt : k < s4l
    · have hx : (pathX l (normP p))[k]? = some ((pathX l (normP p))[k]'(by have := Hl4.out; omega)) := List.getElem?_eq_getElem _
      generalize (pathX l (normP p))[k] = x at hx
      obtain ⟨b, hb, hcx⟩ := own_at2 PrefixM.length (Hn4.out.fr Hf.out).1 (show ((pathX l (normP p)).map (·.p))[k]? = some x.p by rw [List.getElem?_map, hx]; rfl)
      simp only at hb
      subst hb
      have hxm := List.mem_of_getElem? hx
      have hxl := (pathX_mem hxm).1
      have Hxo := hide (Htr.out.ok x hxl)
      have Hcv := hide (pathX_mem hxm).2
      have Hg := hide ((getE_some Htr.out.sorted).2 ⟨hxl, rfl⟩)
      have Hcx := hide hcx; have Hx := hide hx; have Hlt := hide hlt
      have hmul : ((k : Int) * 2).toNat = k * 2 := by omega
      clear hx hk hxm hxl
      go_wp2_with (refine wpList_load_atw rfl 28 (.tmp 32) rfl b (k * 2) (by go_simp) x.p.cells hcx _ Try.underlying28 rfl (by kernel_rfl) ?_)
      refine (trie_get wr F g l 161 (Htr.out.frN (Hf4.out.tr Hf.out)) x.p Hxo.out.2).mono ?_
      rintro e w5 ⟨rfl, hf5⟩
      rw [Hg.out]
      unfold getV
      have Hf5 := hide (Hf.out.tr hf5)
      have Hc5 := hide (Hc4.out.fr Hf5.out (fun h => h))
      have Hcx5 := hide (Hcx.out.fr hf5 (fun h => h))
      clear hf5 hcx
      go_upto_region 9 with (fail)
      have x1 : ∀ z : Grow w5, z.v.cell? ⟨b, k * 2 + 1, none⟩ = some (.int .i64 x.p.len) := fun z => by have := (Hcx5.out.fr z.fr (fun h => h)) 1 _ rfl; exact this
      cases k with
      | zero =>
        refine wp_region_mix (fun W => ∃ z : Grow w5, W = z.v) (by kernel_rfl) (by kernel_rfl) (inGrow (Fr.refl _ _).drew) ?_
        iterate 6 (first | (refine wpMix_skip rfl ?_; simp only [Act.put, List.setIfInBounds_toArray, List.set_cons_succ, List.set_cons_zero]) | (refine wpMix_calm rfl rfl (fun K hK => ?_); go_big_quiet_op; refine hK _ ?_; clear hK K))
        refine wpMix_load_atw rfl 28 (.tmp 42) rfl b (0 * 2) (by go_simp) x.p.cells (fun W hW => by obtain ⟨z, rfl⟩ := hW; exact Hcx5.out.fr z.fr (fun h => h)) _ Try.underlying28 rfl (by kernel_rfl) ?_
        simp only [Act.put, List.setIfInBounds_toArray, List.set_cons_succ, List.set_cons_zero]
        refine wpMix_load_atw rfl 28 (.tmp 3) rfl w.heap.size 0 rfl p.cells (fun W hW => by obtain ⟨z, rfl⟩ := hW; exact Hc5.out.fr z.fr (fun h => h)) _ Try.underlying28 rfl (by kernel_rfl) ?_
        simp only [Act.put, List.setIfInBounds_toArray, List.set_cons_succ, List.set_cons_zero]
        refine wpMix_spine rfl rfl (fun K hK => ?_); go_wp2_with fail
        refine (ref3_Norm p Hp.out _).mono ?_
        rintro e w6 ⟨rfl, f6⟩
        have f6 : Fr noB w5 w6 := (Fr.refl _ _).drew.tr f6
        have F6 := hide f6
        refine hK _ _ rfl (inGrow f6) ?_
        clear hK K f6
        refine wpMix_spine rfl rfl (fun K hK => ?_); go_wp2_with fail
        refine (ref3_Covers x.p (normP p) Hxo.out.2 Hq.out.2 _).mono ?_
        rintro e w7 ⟨rfl, f7⟩
        rw [Hcv.out]
        have f7 : Fr noB w5 w7 := F6.out.tr f7
        have Hf7 := hide (Hf5.out.tr f7)
        refine hK _ _ rfl (inGrow f7) ?_
        clear hK K f7
        repeat (first | (refine wpMix_skip rfl ?_; simp only [Act.put, List.setIfInBounds_toArray, List.set_cons_succ, List.set_cons_zero]) | (refine wpMix_calm rfl rfl (fun K hK => ?_); go_big_quiet_op; refine hK _ ?_; clear hK K))
        refine wpMix_nil ?_
        clear x1
        go_wp2_with fail
        go_roundw
        case rel => exact ⟨1, by have := Hl4.out; omega, by go_num, Hf7.out⟩
        case measure => simp [intOf]; omega
      | succ j =>
        obtain ⟨y, hy⟩ : ∃ y, (pathX l (normP p))[j]? = some y := ⟨_, List.getElem?_eq_getElem (by have := Hl4.out; have := Hlt.out; omega)⟩
        obtain ⟨b', hb', hcy⟩ := own_at2 PrefixM.length (Hn4.out.fr Hf5.out).1 (show ((pathX l (normP p)).map (·.p))[j]? = some y.p by rw [List.getElem?_map, hy]; rfl)
        obtain rfl : b = b' := by simpa using hb'
        have Hyo := hide (Htr.out.ok y (pathX_mem (List.mem_of_getElem? hy)).1)
        obtain ⟨hlt2, hcc⟩ := path_step Htr.out.sorted Htr.out.ok Hq.out hy Hx.out
        have hge : ¬ y.p.len ≥ x.p.len := by omega
        have Hcc := hide hcc; have Hcy := hide hcy
        have hj1 : (j : Int) + 1 - 1 = (j : Int) := by omega
        have hjj : ((j : Int) + 1 > 0) := by omega
        have hge2 : ¬ x.p.len ≤ y.p.len := by omega
        have hmulj : ((j : Int) * 2).toNat = j * 2 := by omega
        have y1 : ∀ z : Grow w5, z.v.cell? ⟨b, j * 2 + 1, none⟩ = some (.int .i64 y.p.len) := fun z => by have := (Hcy.out.fr z.fr (fun h => h)) 1 _ rfl; exact this
        have hjl : j < s4l := by have := Hlt.out; omega
        clear hb' hy hcy hcc hlt2
        refine wp_region_mix (fun W => ∃ z : Grow w5, W = z.v) (by kernel_rfl) (by kernel_rfl) (inGrow (Fr.refl _ _).drew) ?_
        iterate 6 (first | (refine wpMix_skip rfl ?_; simp only [Act.put, List.setIfInBounds_toArray, List.set_cons_succ, List.set_cons_zero]) | (refine wpMix_calm rfl rfl (fun K hK => ?_); go_big_quiet_op; refine hK _ ?_; clear hK K))
        refine wpMix_load_atw rfl 28 (.tmp 42) rfl b ((j + 1) * 2) (by go_simp) x.p.cells (fun W hW => by obtain ⟨z, rfl⟩ := hW; exact Hcx5.out.fr z.fr (fun h => h)) _ Try.underlying28 rfl (by kernel_rfl) ?_
        simp only [Act.put, List.setIfInBounds_toArray, List.set_cons_succ, List.set_cons_zero]
        refine wpMix_load_atw rfl 28 (.tmp 3) rfl w.heap.size 0 rfl p.cells (fun W hW => by obtain ⟨z, rfl⟩ := hW; exact Hc5.out.fr z.fr (fun h => h)) _ Try.underlying28 rfl (by kernel_rfl) ?_
        simp only [Act.put, List.setIfInBounds_toArray, List.set_cons_succ, List.set_cons_zero]
        refine wpMix_spine rfl rfl (fun K hK => ?_); go_wp2_with fail
        refine (ref3_Norm p Hp.out _).mono ?_
        rintro e w6 ⟨rfl, f6⟩
        have f6 : Fr noB w5 w6 := (Fr.refl _ _).drew.tr f6
        have F6 := hide f6
        refine hK _ _ rfl (inGrow f6) ?_
        clear hK K f6
        refine wpMix_spine rfl rfl (fun K hK => ?_); go_wp2_with fail
        refine (ref3_Covers x.p (normP p) Hxo.out.2 Hq.out.2 _).mono ?_
        rintro e w7 ⟨rfl, f7⟩
        rw [Hcv.out]
        have f7 : Fr noB w5 w7 := F6.out.tr f7
        have F7 := hide f7
        refine hK _ _ rfl (inGrow f7) ?_
        clear hK K f7
        iterate 18 (first | (refine wpMix_skip rfl ?_; simp only [Act.put, List.setIfInBounds_toArray, List.set_cons_succ, List.set_cons_zero]) | (refine wpMix_calm rfl rfl (fun K hK => ?_); go_big_quiet_op; refine hK _ ?_; clear hK K))
        rw [show decide (x.p.len ≤ y.p.len) = false from decide_eq_false (by omega)]
        iterate 5 (first | (refine wpMix_skip rfl ?_; simp only [Act.put, List.setIfInBounds_toArray, List.set_cons_succ, List.set_cons_zero]) | (refine wpMix_calm rfl rfl (fun K hK => ?_); go_big_quiet_op; refine hK _ ?_; clear hK K))
        refine wpMix_load_atw rfl 28 (.tmp 69) rfl b (j * 2) (by go_simp) y.p.cells (fun W hW => by obtain ⟨z, rfl⟩ := hW; exact Hcy.out.fr z.fr (fun h => h)) _ Try.underlying28 rfl (by kernel_rfl) ?_
        simp only [Act.put, List.setIfInBounds_toArray, List.set_cons_succ, List.set_cons_zero]
        iterate 3 (first | (refine wpMix_skip rfl ?_; simp only [Act.put, List.setIfInBounds_toArray, List.set_cons_succ, List.set_cons_zero]) | (refine wpMix_calm rfl rfl (fun K hK => ?_); go_big_quiet_op; refine hK _ ?_; clear hK K))
        refine wpMix_load_atw rfl 28 (.tmp 73) rfl b ((j + 1) * 2) (by go_simp) x.p.cells (fun W hW => by obtain ⟨z, rfl⟩ := hW; exact Hcx5.out.fr z.fr (fun h => h)) _ Try.underlying28 rfl (by kernel_rfl) ?_
        simp only [Act.put, List.setIfInBounds_toArray, List.set_cons_succ, List.set_cons_zero]
        refine wpMix_spine rfl rfl (fun K hK => ?_); go_wp2_with fail
        refine (ref3_Covers y.p x.p Hyo.out.2 Hxo.out.2 _).mono ?_
        rintro e w8 ⟨rfl, f8⟩
        rw [Hcc.out]
        have f8 : Fr noB w5 w8 := F7.out.tr f8
        have Hf8 := hide (Hf5.out.tr f8)
        refine hK _ _ rfl (inGrow f8) ?_
        clear hK K f8
        repeat (first | (refine wpMix_skip rfl ?_; simp only [Act.put, List.setIfInBounds_toArray, List.set_cons_succ, List.set_cons_zero]) | (refine wpMix_calm rfl rfl (fun K hK => ?_); go_big_quiet_op; refine hK _ ?_; clear hK K))
        refine wpMix_nil ?_
        clear x1 y1
        go_wp2_with fail
        go_roundw
        case rel => exact ⟨j + 2, by have := Hl4.out; omega, by go_num, Hf8.out⟩
        case measure => simp [intOf]; omega
    · go_wp2_with fail
      refine (law_known wr).mono ?_
      rintro e w5 ⟨rfl, hf5⟩
      have Hf5 := hide (Hf.out.tr hf5)
      clear hf5
      go_wp2_with fail
      go_ret
      exact ⟨rfl, Hf2.out.tr (Hf4.out.tr Hf5.out)⟩
end Go.Proofs.Ytgjabgneapdbiaa
