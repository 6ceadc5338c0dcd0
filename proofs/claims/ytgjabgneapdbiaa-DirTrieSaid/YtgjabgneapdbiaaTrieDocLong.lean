/- The document's answer to chapter 9: Longest, Covers. -/
import Derived.Test.YtgjabgneapdbiaaTrieCovers
namespace Go.Proofs.Ytgjabgneapdbiaa
open Go.RowKit Go.BigFrame
set_option linter.unusedSimpArgs false
set_option linter.unusedVariables false
attribute [local irreducible] wpMix wpAnyG

def LngIs (l : List EntM) (a k : Nat) (b : Value) : Prop :=
  (b = .int .i64 (-1) ∧ ∀ j x, j < k → l[j]? = some x → hasB x.p.addr x.p.len a = false) ∨
  ∃ (m : Nat) (y : EntM), b = .int .i64 m ∧ m < k ∧ l[m]? = some y ∧ hasB y.p.addr y.p.len a = true ∧ ∀ j x, j < k → l[j]? = some x → hasB x.p.addr x.p.len a = true → x.p.len ≤ y.p.len
def LngAt (l : List EntM) (a : Nat) (w0 : World) (b i : Value) (wr : World) : Prop := ∃ k : Nat, k ≤ l.length ∧ i = .int .i64 k ∧ LngIs l a k b ∧ Fr noB w0 wr
theorem lng_end {l : List EntM} (hs : SortedE l) (hok : ∀ x ∈ l, okP x.p) {a : Nat} (ha : a < 4294967296) {b : Value} (h : LngIs l a l.length b) : (b = .int .i64 (-1) ∧ longE l a = none) ∨ ∃ (m : Nat) (y : EntM), b = .int .i64 m ∧ l[m]? = some y ∧ longE l a = some y := by
  rcases h with ⟨hb, hno⟩ | ⟨m, y, hb, _, hy, hh, hmax⟩
  · refine .inl ⟨hb, (LongIs.uniq hs hok (o := none) ⟨fun x hx => by simp at hx, fun _ y hy => ?_⟩ (longE_is hs hok ha)).symm⟩
    obtain ⟨j, hj⟩ := List.getElem?_of_mem hy
    exact hno j y (List.getElem?_eq_some_iff.1 hj).1 hj
  · refine .inr ⟨m, y, hb, hy, (LongIs.uniq hs hok (o := some y) ⟨fun x hx => ?_, fun hx => by simp at hx⟩ (longE_is hs hok ha)).symm⟩
    obtain rfl := Option.some.inj hx
    refine ⟨List.mem_of_getElem? hy, hh, fun z hz hzz => ?_⟩
    obtain ⟨j, hj⟩ := List.getElem?_of_mem hz
    exact hmax j z (List.getElem?_eq_some_iff.1 hj).1 hj hzz

set_option maxRecDepth 100000 in
set_option maxHeartbeats 4000000 in
theorem doc_long (w : World) (F : Nat → Prop) (g : Nat) (ty : TypeId) (rest : List Value) (l : List EntM) (h : DocT w F g ty rest l) (hs : SortedE l) (hok : ∀ x ∈ l, okP x.p) (a : Nat) (ha : a < 4294967296) :
    Calls Try.prog 27 #[.pointer (some ⟨g, 0, none⟩), .int .u32 (a : Nat)] w fun e w' => e = .returned (longV (longE l a)) ∧ Fr noB w w' := by
  have H := hide h; have HSo := hide hs; have Hok := hide hok
  have hlen := h.len
  clear h hs hok
  go_enter Try.func27, Try.ntmps27
  go_upto_region 1 with (fail)
  refine wp_gen (fun W => Blk W w.heap.size (PrefixM.mk 0 0).cells.toArray 28 ∧ Fr noB w W) ⟨Blk.alloc_new w _ _, (Fr.refl _ _).alloc _⟩ ?_
  rintro w1 ⟨hb, hf⟩
  have HB := hide hb; have Hf := hide hf
  clear hb hf
  go_wp2_with fail
  go_loopw [7, 8] (LngAt l a w1) (fun _ i _ => l.length - (intOf i).toNat)
  case atStart => exact ⟨0, Nat.zero_le _, rfl, .inl ⟨rfl, fun j x hj => by omega⟩, Fr.refl _ _⟩
  case round =>
    obtain ⟨k, hk, rfl, hbo, hf1⟩ := hrel
    have Hf1 := hide hf1; have Hbo := hide hbo
    clear hf1
    obtain ⟨⟨⟨sa, sl, sc⟩, ⟨va, vl, vc⟩, hblk, hown, hov, hFp, hFv⟩, _, hFg, _⟩ := H.out.frN (Hf.out.tr Hf1.out)
    have HFp := hide hFp; have HFv := hide hFv; have hgl : g < w.heap.size := H.out.lt g hFg
    have hsl : sl = l.length := hown.1
    have hvl : vl = l.length := hov.1
    have c0 : wr.cell? ⟨g, 0, none⟩ = some (.slice sa sl sc) := hblk.cell 0
    have hmax : sl ≤ 1000 := by rw [hsl]; exact hlen
    have Hsl := hide hsl; have Hown := hide hown; have Hblk := hide hblk; have Hvl := hide hvl; have Hov := hide hov
    clear hsl hblk hown hvl hov hFp hFv hFg
    by_cases hlt : k < sl
    · have hk2 : k < l.length := by have := Hsl.out; omega
      have hx : l[k]? = some l[k] := List.getElem?_eq_getElem hk2
      generalize l[k] = x at hx
      obtain ⟨gs, rfl, _, hcx, _⟩ := own_at Hown.out pcE_length hx
      have Hx := hide hx; have Hcx := hide (show CellsAt wr gs (k * 2) x.p.cells from hcx)
      have hxw := (Hok.out x (List.mem_of_getElem? hx)).2.1
      have hmul : ((k : Int) * 2).toNat = k * 2 := by omega
      have hg0 : ∀ z : Grow wr, z.v.cell? ⟨g, 0, none⟩ = some (.slice (some ⟨gs, 0, none⟩) sl sc) := fun z => by rw [(Hblk.out.fr z.fr (fun h => h)).cell 0]; rfl
      have x1 : ∀ z : Grow wr, z.v.cell? ⟨gs, k * 2 + 1, none⟩ = some (.int .i64 x.p.len) := fun z => by have := (Hcx.out.fr z.fr (fun h => h)) 1 _ rfl; exact this
      clear hx hcx hk
      go_upto_region 5 with (fail)
      clear c0
      refine wp_region_mix (fun W => ∃ z : Grow wr, W = z.v) (by kernel_rfl) (by kernel_rfl) (inGrow (Fr.refl _ _).drew) ?_
      iterate 6 (first | (refine wpMix_skip rfl ?_; simp only [Act.put, List.setIfInBounds_toArray, List.set_cons_succ, List.set_cons_zero]) | (refine wpMix_calm rfl rfl (fun K hK => ?_); go_big_quiet_op; refine hK _ ?_; clear hK K))
      refine wpMix_load_atw rfl 28 (.tmp 23) rfl gs (k * 2) (by go_simp) x.p.cells (fun W hW => by obtain ⟨z, rfl⟩ := hW; exact Hcx.out.fr z.fr (fun h => h)) _ Try.underlying28 rfl (by kernel_rfl) ?_
      simp only [Act.put, List.setIfInBounds_toArray, List.set_cons_succ, List.set_cons_zero]
      iterate 1 (first | (refine wpMix_skip rfl ?_; simp only [Act.put, List.setIfInBounds_toArray, List.set_cons_succ, List.set_cons_zero]) | (refine wpMix_calm rfl rfl (fun K hK => ?_); go_big_quiet_op; refine hK _ ?_; clear hK K))
      refine wpMix_spine rfl rfl (fun K hK => ?_); go_wp2_with fail
      refine (ref3_Has x.p.addr a x.p.len hxw ha _).mono ?_
      rintro e w4 ⟨rfl, hf4⟩
      have Hf4 := hide ((Fr.refl noB wr).drew.tr hf4)
      refine hK _ _ rfl (inGrow Hf4.out) ?_
      clear hK K hf4
      cases hh : hasB x.p.addr x.p.len a with
      | false =>
        have Hh := hide hh
        clear hh hbo
        repeat (first | (refine wpMix_skip rfl ?_; simp only [Act.put, List.setIfInBounds_toArray, List.set_cons_succ, List.set_cons_zero]) | (refine wpMix_calm rfl rfl (fun K hK => ?_); go_big_quiet_op; refine hK _ ?_; clear hK K))
        refine wpMix_nil ?_
        clear hg0 x1
        go_wp2_with fail
        go_roundw
        case rel =>
          refine ⟨k + 1, by have := Hsl.out; omega, by go_num, ?_, Hf1.out.tr Hf4.out⟩
          rcases Hbo.out with ⟨h1, h2⟩ | ⟨m, y, h1, h2, h3, h4, h5⟩
          · refine .inl ⟨h1, fun j z hj hz => ?_⟩
            by_cases e : j = k
            · subst e; rw [Hx.out] at hz; obtain rfl := Option.some.inj hz; exact Hh.out
            · exact h2 j z (by omega) hz
          · refine .inr ⟨m, y, h1, by omega, h3, h4, fun j z hj hz hzz => ?_⟩
            by_cases e : j = k
            · subst e; rw [Hx.out] at hz; obtain rfl := Option.some.inj hz; rw [Hh.out] at hzz; cases hzz
            · exact h5 j z (by omega) hz hzz
        case measure => have := Hsl.out; simp [intOf]; omega
      | true =>
        have Hh := hide hh
        clear hh
        rcases hbo with ⟨rfl, hno⟩ | ⟨m, y, rfl, hmk, hy, hyh, hmx⟩
        · have Hno := hide hno
          clear hno Hbo
          repeat (first | (refine wpMix_skip rfl ?_; simp only [Act.put, List.setIfInBounds_toArray, List.set_cons_succ, List.set_cons_zero]) | (refine wpMix_calm rfl rfl (fun K hK => ?_); go_big_quiet_op; refine hK _ ?_; clear hK K))
          refine wpMix_nil ?_
          clear hg0 x1
          go_wp2_with fail
          go_roundw
          case rel =>
            refine ⟨k + 1, by have := Hsl.out; omega, by go_num, .inr ⟨k, x, rfl, by omega, Hx.out, Hh.out, fun j z hj hz hzz => ?_⟩, Hf1.out.tr Hf4.out⟩
            by_cases e : j = k
            · subst e; rw [Hx.out] at hz; obtain rfl := Option.some.inj hz; exact Int.le_refl _
            · have := Hno.out j z (by omega) hz; rw [hzz] at this; cases this
          case measure => have := Hsl.out; simp [intOf]; omega
        · have hml : m < sl := by omega
          have hmul2 : ((m : Int) * 2).toNat = m * 2 := by omega
          have Hy := hide hy; have Hmx := hide hmx; have Hyh := hide hyh
          obtain ⟨g', hg', _, hcy, _⟩ := own_at Hown.out pcE_length hy
          obtain rfl : gs = g' := by simpa using hg'
          have Hcy := hide (show CellsAt wr gs (m * 2) y.p.cells from hcy)
          have y1 : ∀ z : Grow wr, z.v.cell? ⟨gs, m * 2 + 1, none⟩ = some (.int .i64 y.p.len) := fun z => by have := (Hcy.out.fr z.fr (fun h => h)) 1 _ rfl; exact this
          clear hg' hcy hy hmx hyh Hbo
          have hnn : ¬ (m : Int) < 0 := by omega
          by_cases hgt : x.p.len > y.p.len
          · repeat (first | (refine wpMix_skip rfl ?_; simp only [Act.put, List.setIfInBounds_toArray, List.set_cons_succ, List.set_cons_zero]) | (refine wpMix_calm rfl rfl (fun K hK => ?_); go_big_quiet_op; refine hK _ ?_; clear hK K))
            refine wpMix_nil ?_
            have Hgt := hide hgt
            clear hg0 x1 y1 hgt
            go_wp2_with fail
            go_roundw
            case rel =>
              refine ⟨k + 1, by have := Hsl.out; omega, by go_num, .inr ⟨k, x, rfl, by omega, Hx.out, Hh.out, fun j z hj hz hzz => ?_⟩, Hf1.out.tr Hf4.out⟩
              by_cases e : j = k
              · subst e; rw [Hx.out] at hz; obtain rfl := Option.some.inj hz; exact Int.le_refl _
              · have := Hmx.out j z (by omega) hz hzz; have := Hgt.out; omega
            case measure => have := Hsl.out; simp [intOf]; omega
          · repeat (first | (refine wpMix_skip rfl ?_; simp only [Act.put, List.setIfInBounds_toArray, List.set_cons_succ, List.set_cons_zero]) | (refine wpMix_calm rfl rfl (fun K hK => ?_); go_big_quiet_op; refine hK _ ?_; clear hK K))
            refine wpMix_nil ?_
            have Hgt := hide hgt
            clear hg0 x1 y1 hgt
            go_wp2_with fail
            go_roundw
            case rel =>
              refine ⟨k + 1, by have := Hsl.out; omega, by go_num, .inr ⟨m, y, rfl, by omega, Hy.out, Hyh.out, fun j z hj hz hzz => ?_⟩, Hf1.out.tr Hf4.out⟩
              by_cases e : j = k
              · subst e; rw [Hx.out] at hz; obtain rfl := Option.some.inj hz; have := Hgt.out; omega
              · exact Hmx.out j z (by omega) hz hzz
            case measure => have := Hsl.out; simp [intOf]; omega
    · have hk' : k = l.length := by have := Hsl.out; omega
      rw [hk'] at hbo
      have HB1 := hide (HB.out.fr Hf1.out (fun h => h))
      have hend := lng_end HSo.out Hok.out ha hbo
      clear hbo hk' Hbo
      rcases hend with ⟨rfl, hbn⟩ | ⟨m, y, rfl, hy, hby⟩
      · have HR := hide hbn
        clear hbn
        go_wp2_with (first | (refine wpList_build_as rfl 28 _ rfl (PrefixM.mk 0 0).cells.toArray (by kernel_rfl) ?_) | (refine wpList_store_row rfl 28 (.tmp 4) (.tmp 53) rfl _ (PrefixM.mk 0 0).cells.toArray rfl rfl _ _ HB1.out (by kernel_rfl) rfl (PrefixM.onea _) ?_))
        rw [HR.out]
        exact bodyPost_ret (v := longV none) (results_ftt Try.results27 _ _ _ 0 (PrefixM.mk 0 0).cells _ rfl (Blk.cells (HB1.out.setRow)) Try.underlying28 rfl (by kernel_rfl) _ _ rfl rfl) rfl ⟨rfl, (Hf.out.tr Hf1.out).setRow (.inl (by omega)) _⟩
      · have HR := hide hby
        have hml : m < sl := by have := (List.getElem?_eq_some_iff.1 hy).1; have := Hsl.out; omega
        have hmlv : m < vl := by have := Hsl.out; have := Hvl.out; omega
        obtain ⟨gs, rfl, _, hcy, _⟩ := own_at Hown.out pcE_length hy
        obtain ⟨gv, rfl, _, hcv, _⟩ := own_at Hov.out vcE_length hy
        have Hcy := hide (show CellsAt wr gs (m * 2) y.p.cells from hcy)
        have Hcv := hide (show CellsAt wr gv (m * 1) [.int .i64 y.v] from hcv)
        have hmul2 : ((m : Int) * 2).toNat = m * 2 := by omega
        have hmul3 : ((m : Int) * 1).toNat = m := by omega
        have hmul4 : (m : Int).toNat = m := by omega
        have hnn : ¬ (m : Int) < 0 := by omega
        have hgs : gs < w.heap.size := H.out.lt gs (HFp.out gs ⟨_, rfl, rfl⟩)
        have hgv : gv < w.heap.size := H.out.lt gv (HFv.out gv ⟨_, rfl, rfl⟩)
        have hg0 : ∀ z : GrowS (oneB w.heap.size) wr, z.v.cell? ⟨g, 0, none⟩ = some (.slice (some ⟨gs, 0, none⟩) sl sc) := fun z => by rw [(Hblk.out.fr z.fr (fun e => by unfold oneB at e; omega)).cell 0]; rfl
        have hg1 : ∀ z : GrowS (oneB w.heap.size) wr, z.v.cell? ⟨g, 1, none⟩ = some (.slice (some ⟨gv, 0, none⟩) vl vc) := fun z => by rw [(Hblk.out.fr z.fr (fun e => by unfold oneB at e; omega)).cell 1]; rfl
        have hg2 : ∀ z : GrowS (oneB w.heap.size) wr, z.v.cell? ⟨gv, m, none⟩ = some (.int .i64 y.v) := fun z => by have := Hcv.out.fr z.fr (fun e => by unfold oneB at e; omega) 0 _ rfl; simpa using this
        clear hby hy hcy hcv
        go_upto_region 9 with (fail)
        clear c0
        refine wp_region_mix (fun W => ∃ z : GrowS (oneB w.heap.size) wr, W = z.v) (by kernel_rfl) (by kernel_rfl) (inGrowS (Fr.refl _ _).drew) ?_
        iterate 6 (first | (refine wpMix_skip rfl ?_; simp only [Act.put, List.setIfInBounds_toArray, List.set_cons_succ, List.set_cons_zero]) | (refine wpMix_calm rfl rfl (fun K hK => ?_); go_big_quiet_op; refine hK _ ?_; clear hK K))
        refine wpMix_load_atw rfl 28 (.tmp 59) rfl gs (m * 2) (by go_simp) y.p.cells (fun W hW => by obtain ⟨z, rfl⟩ := hW; exact Hcy.out.fr z.fr (fun e => by unfold oneB at e; omega)) _ Try.underlying28 rfl (by kernel_rfl) ?_
        simp only [Act.put, List.setIfInBounds_toArray, List.set_cons_succ, List.set_cons_zero]
        iterate 7 (first | (refine wpMix_skip rfl ?_; simp only [Act.put, List.setIfInBounds_toArray, List.set_cons_succ, List.set_cons_zero]) | (refine wpMix_calm rfl rfl (fun K hK => ?_); go_big_quiet_op; refine hK _ ?_; clear hK K))
        refine wpMix_store_blk rfl 28 (.tmp 4) (.tmp 60) rfl w.heap.size y.p.cells rfl rfl _ _ (show Blk wr.drew w.heap.size _ _ from HB1.out) rfl (by kernel_rfl) (PrefixM.mem _) (inGrowS ((Fr.refl (oneB w.heap.size) wr).drew.setRow (.inr rfl) _)) ?_
        simp only [Act.put, List.setIfInBounds_toArray, List.set_cons_succ, List.set_cons_zero]
        repeat (first | (refine wpMix_skip rfl ?_; simp only [Act.put, List.setIfInBounds_toArray, List.set_cons_succ, List.set_cons_zero]) | (refine wpMix_calm rfl rfl (fun K hK => ?_); go_big_quiet_op; refine hK _ ?_; clear hK K))
        refine wpMix_nil ?_
        have Hb4 := hide (show Blk (wr.drew.setRow w.heap.size y.p.cells.toArray) w.heap.size y.p.cells.toArray 28 from Blk.setRow (cs := (PrefixM.mk 0 0).cells.toArray) (show Blk wr.drew w.heap.size _ _ from HB1.out))
        have Hf4 := hide (show Fr noB w (wr.drew.setRow w.heap.size y.p.cells.toArray) from (Hf.out.tr Hf1.out).drew.setRow (.inl (Nat.le_refl _)) _)
        generalize wr.drew.setRow w.heap.size y.p.cells.toArray = w4 at *
        clear hg0 hg1 hg2
        go_wp2_with fail
        rw [HR.out]
        exact bodyPost_ret (v := longV (some y)) (results_ftt Try.results27 _ _ _ 0 y.p.cells _ rfl (Blk.cells Hb4.out) Try.underlying28 rfl (by kernel_rfl) _ _ rfl rfl) rfl ⟨rfl, Hf4.out⟩

/-! ### Covers -/
def covF (l : List EntM) (p : PrefixM) (n : Nat) : List EntM := l.filter (fun e => decide (e.p.len = (n : Int)) && covB e.p p)
def covN (l : List EntM) (p : PrefixM) : Nat → List EntM
  | 0 => []
  | n + 1 => covN l p n ++ covF l p n
theorem covN_mem {l : List EntM} {p : PrefixM} {x : EntM} (hx : x ∈ l → okP x.p) : ∀ n, x ∈ covN l p n ↔ x ∈ l ∧ covB x.p p = true ∧ x.p.len < n
  | 0 => by
    simp only [covN, List.not_mem_nil, false_iff]
    rintro ⟨h1, _, h3⟩
    have := (hx h1).bd
    omega
  | n + 1 => by
    simp only [covN, List.mem_append, covN_mem hx n, covF, List.mem_filter, Bool.and_eq_true, decide_eq_true_eq]
    constructor
    · rintro (⟨h1, h2, h3⟩ | ⟨h1, h2, h3⟩)
      · exact ⟨h1, h2, by omega⟩
      · exact ⟨h1, h3, by omega⟩
    · rintro ⟨h1, h2, h3⟩
      by_cases e : x.p.len = n
      · exact .inr ⟨h1, e, h2⟩
      · exact .inl ⟨h1, h2, by omega⟩
theorem cov_bef {p q r : PrefixM} (hp : okP p) (hq : okP q) (hr : okP r) (h1 : cov p r) (h2 : cov q r) (h : p.len < q.len) : befP p q := by
  have s1 := cov_sub hp hr h1
  have s2 := cov_sub hq hr h2
  have sp := szP_pos r
  have hc : cov p q := by
    rcases nest hp hq (Int.le_of_lt h) with c | c | c
    · exact c
    · omega
    · omega
  unfold befP
  have := hc.2.1
  omega
theorem covN_sorted {l : List EntM} (hs : SortedE l) (hok : ∀ x ∈ l, okP x.p) {p : PrefixM} (hp : okP p) : ∀ n, SortedE (covN l p n)
  | 0 => List.Pairwise.nil
  | n + 1 => by
    unfold covN SortedE
    rw [List.pairwise_append]
    refine ⟨covN_sorted hs hok hp n, hs.sublist List.filter_sublist, fun x hx y hy => ?_⟩
    have hxm := (covN_mem (fun h => hok x h) n).1 hx
    simp only [covF, List.mem_filter, Bool.and_eq_true, decide_eq_true_eq] at hy
    exact cov_bef (hok x hxm.1) (hok y hy.1) hp ((covB_iff (hok x hxm.1) hp).1 hxm.2.1) ((covB_iff (hok y hy.1) hp).1 hy.2.2) (by omega)
theorem covN_path {l : List EntM} (hs : SortedE l) (hok : ∀ x ∈ l, okP x.p) {p : PrefixM} (hp : okP p) : covN l p 33 = pathX l p := by
  refine eq_of_sorted (covN_sorted hs hok hp 33) (pathX_sorted hs p) (fun x => ?_)
  rw [covN_mem (fun h => hok x h)]
  unfold pathX
  rw [if_pos hp.1, List.mem_filter]
  constructor
  · rintro ⟨h1, h2, _⟩; exact ⟨h1, h2⟩
  · rintro ⟨h1, h2⟩; exact ⟨h1, h2, by have := (hok x h1).bd; omega⟩
theorem covN_len (l : List EntM) (p : PrefixM) : ∀ n, (covN l p n).length ≤ n * l.length
  | 0 => by simp [covN]
  | n + 1 => by
    have h1 := covN_len l p n
    have h2 : (covF l p n).length ≤ l.length := List.length_filter_le _ _
    simp only [covN, List.length_append, Nat.add_mul, Nat.one_mul]
    omega
theorem covF_len (l : List EntM) (p : PrefixM) (n k : Nat) : (covF (l.take k) p n).length ≤ l.length := by
  refine Nat.le_trans (List.length_filter_le _ _) ?_
  rw [List.length_take]; omega
theorem covF_snoc (l : List EntM) (p : PrefixM) (n k : Nat) (x : EntM) (hx : l[k]? = some x) : covF (l.take (k + 1)) p n = covF (l.take k) p n ++ (if x.p.len = (n : Int) ∧ covB x.p p = true then [x] else []) := by
  unfold covF
  rw [List.take_add_one, hx, List.filter_append]
  congr 1
  by_cases h : x.p.len = (n : Int) ∧ covB x.p p = true
  · rw [if_pos h]; simp [h.1, h.2]
  · rw [if_neg h]
    simp only [Option.toList_some, List.filter_cons, List.filter_nil]
    rw [if_neg]
    simpa using h
def CvAt (w0 : World) (l : List EntM) (p : PrefixM) (sv nv : Value) (wr : World) : Prop := ∃ (n : Nat) (s : SlV), n ≤ 33 ∧ nv = .int .i64 n ∧ sv = .slice s.a s.len s.cap ∧ NewP w0 wr s ((covN l p n).map (·.p)) ∧ Fr noB w0 wr
def CvIn (w0 : World) (l : List EntM) (p : PrefixM) (n : Nat) (sv iv : Value) (wr : World) : Prop := ∃ (k : Nat) (s : SlV), k ≤ l.length ∧ iv = .int .i64 k ∧ sv = .slice s.a s.len s.cap ∧ NewP w0 wr s ((covN l p n ++ covF (l.take k) p n).map (·.p)) ∧ Fr noB w0 wr
def CvNo (w0 : World) (sv nv : Value) (wr : World) : Prop := ∃ n : Nat, n ≤ 32 ∧ nv = .int .i64 n ∧ sv = .slice none 0 0 ∧ Fr noB w0 wr

set_option maxRecDepth 100000 in
set_option maxHeartbeats 4000000 in
theorem doc_covers (w : World) (F : Nat → Prop) (g : Nat) (ty : TypeId) (rest : List Value) (l : List EntM) (h : DocT w F g ty rest l) (hs : SortedE l) (hok : ∀ x ∈ l, okP x.p) (p : PrefixM) (hp : p.wf) :
    Calls Try.prog 30 #[.pointer (some ⟨g, 0, none⟩), .agg p.cells.toArray] w (ListTo w ((pathX l p).map (·.p))) := by
  have H := hide h; have HSo := hide hs; have Hok := hide hok; have Hp := hide hp
  have hlen := h.len
  clear h hs hok hp
  go_enter Try.func30, Try.ntmps30
  go_upto_region 1 with (fail)
  refine wp_gen (fun W => CellsAt W w.heap.size 0 p.cells ∧ Fr noB w W) ⟨by (repeat (first | assumption | exact cells_new _ _ _ (by simp) | refine CellsAt.alloc ?_ _ | refine CellsAt.drew ?_ | refine CellsAt.drewN ?_ _)), (Fr.refl _ _).alloc _⟩ ?_
  rintro w1 ⟨hc1, hf1⟩
  have Hc1 := hide hc1; have Hf1 := hide hf1
  clear hc1 hf1
  go_wp2_with fail
  by_cases hn : p = normP p
  · have Hn := hide (show okP p from ⟨hn, Hp.out⟩)
    have hdn : decide (p = normP p) = true := decide_eq_true hn
    clear hn
    go_loopw [5, 6] (CvAt w1 l p) (fun _ n _ => 33 - (intOf n).toNat)
    case atStart => exact ⟨0, ⟨none, 0, 0⟩, by omega, rfl, rfl, NewL.nil _ _ _ _ _, Fr.refl _ _⟩
    case round =>
      obtain ⟨n, ⟨ta, tl, tc⟩, hn33, rfl, rfl, hnew, hf2⟩ := hrel
      have Hnew := hide hnew; have Hf2 := hide hf2
      have hc2 : CellsAt wr w.heap.size 0 p.cells := Hc1.out.fr hf2 (fun h => h)
      have Hc2 := hide hc2
      clear hnew hf2
      by_cases hle : n ≤ 32
      · have hle' : (n : Int) ≤ 32 := by omega
        go_wp2_with (first | rw [decide_eq_true hle'] | (refine wpList_load_atw rfl 28 _ rfl _ _ rfl (PrefixM.cells _) (by (repeat (first | assumption | exact cells_new _ _ _ (by simp) | refine CellsAt.alloc ?_ _ | refine CellsAt.drew ?_ | refine CellsAt.drewN ?_ _))) _ Try.underlying28 rfl (by kernel_rfl) ?_))
        refine (ref3_Is p Hp.out wr).mono ?_
        rintro e w3 ⟨rfl, hf3⟩
        rw [hdn]
        have Hf3 := hide (Hf2.out.tr hf3)
        have HI : Hid (CvIn w1 l p n (.slice ta tl tc) (.int .i64 0) w3) := hide ⟨0, ⟨ta, tl, tc⟩, Nat.zero_le _, rfl, rfl, by
          have := Hnew.out.fr hf3
          simpa [covF] using this, Hf3.out⟩
        clear hf3 hc2 Hnew
        go_wp2_with fail
        obtain ⟨wi, hwi⟩ : ∃ wi : World, wi = w3 := ⟨_, rfl⟩
        go_loopw [5, 7] (CvIn w1 l p n) (fun _ i _ => l.length - (intOf i).toNat)
        case atStart => exact HI.out
        case round =>
          obtain ⟨k, ⟨sa, sl, sc⟩, hk, rfl, rfl, hnew, hf4⟩ := hrel
          have Hnew := hide hnew; have Hf4 := hide hf4
          have hc4 : CellsAt wr w.heap.size 0 p.cells := Hc1.out.fr hf4 (fun h => h)
          have Hc4 := hide hc4
          obtain ⟨⟨⟨da, dl, dc⟩, sv, hblk, hown, _⟩, _⟩ := H.out.frN (Hf1.out.tr Hf4.out)
          have hdl : dl = l.length := hown.1
          have c0 : wr.cell? ⟨g, 0, none⟩ = some (.slice da dl dc) := hblk.cell 0
          have hg0 : ∀ z : Grow wr, z.v.cell? ⟨g, 0, none⟩ = some (.slice da dl dc) := fun z => by rw [(hblk.fr z.fr (fun h => h)).cell 0]; rfl
          have hmax : dl ≤ 1000 := by rw [hdl]; exact hlen
          have hpre : ((covN l p n ++ covF (l.take k) p n).map (·.p)).length ≤ 34000 := by
            have h1 := covN_len l p n
            have h2 := covF_len l p n k
            have h3 : n * l.length ≤ 32 * l.length := Nat.mul_le_mul_right _ hle
            rw [List.length_map, List.length_append]
            omega
          have hsl : sl ≤ 34000 := by have h : sl = _ := hnew.len; omega
          have Hdl := hide hdl; have Hown := hide hown
          clear hnew hf4 hdl hown hc4 HI
          by_cases hlt : k < dl
          · have hx : l[k]? = some (l[k]'(by have := Hdl.out; omega)) := List.getElem?_eq_getElem _
            generalize l[k] = x at hx
            obtain ⟨gs, rfl, _, hcx, _⟩ := own_at Hown.out pcE_length hx
            have Hcx := hide (show CellsAt wr gs (k * 2) x.p.cells from hcx)
            have Hxo := hide (Hok.out x (List.mem_of_getElem? hx))
            have Hsn := hide (covF_snoc l p n k x hx)
            have hmul : ((k : Int) * 2).toNat = k * 2 := by omega
            have x1 : ∀ z : Grow wr, z.v.cell? ⟨gs, k * 2 + 1, none⟩ = some (.int .i64 x.p.len) := fun z => by have := (Hcx.out.fr z.fr (fun h => h)) 1 _ rfl; exact this
            clear hx hcx hk
            go_upto_region 8 with (fail)
            refine wp_region_mix (fun W => ∃ z : Grow wr, W = z.v) (by kernel_rfl) (by kernel_rfl) (inGrow (Fr.refl _ _).drew) ?_
            by_cases hxn : x.p.len = (n : Int)
            · iterate 17 (first | (refine wpMix_skip rfl ?_; simp only [Act.put, List.setIfInBounds_toArray, List.set_cons_succ, List.set_cons_zero]) | (refine wpMix_calm rfl rfl (fun K hK => ?_); go_big_quiet_op; refine hK _ ?_; clear hK K))
              refine wpMix_load_atw rfl 28 (.tmp 41) rfl gs (k * 2) (by go_simp) x.p.cells (fun W hW => by obtain ⟨z, rfl⟩ := hW; exact Hcx.out.fr z.fr (fun h => h)) _ Try.underlying28 rfl (by kernel_rfl) ?_
              simp only [Act.put, List.setIfInBounds_toArray, List.set_cons_succ, List.set_cons_zero]
              refine wpMix_load_atw rfl 28 (.tmp 3) rfl w.heap.size 0 rfl p.cells (fun W hW => by obtain ⟨z, rfl⟩ := hW; exact Hc4.out.fr z.fr (fun h => h)) _ Try.underlying28 rfl (by kernel_rfl) ?_
              simp only [Act.put, List.setIfInBounds_toArray, List.set_cons_succ, List.set_cons_zero]
              refine wpMix_spine rfl rfl (fun K hK => ?_); go_wp2_with fail
              refine (ref3_Covers x.p p Hxo.out.2 Hp.out _).mono ?_
              rintro e w5 ⟨rfl, hf5⟩
              have hf5' : Fr noB wr w5 := (Fr.refl noB wr).drew.tr hf5
              have Hf5 := hide (Hf4.out.tr hf5'); have Hnew5 := hide (Hnew.out.fr hf5')
              refine hK _ _ rfl (inGrow hf5') ?_
              clear hK K
              have c05 : w5.cell? ⟨g, 0, none⟩ = some (.slice (some ⟨gs, 0, none⟩) dl dc) := hg0 ⟨w5, hf5'⟩
              have hcx5 : CellsAt w5 gs (k * 2) x.p.cells := Hcx.out.fr hf5' (fun h => h)
              clear hf5 hf5' c0 Hnew
              cases hcv : covB x.p p with
              | true =>
                have HS := hide (show covF (l.take (k + 1)) p n = covF (l.take k) p n ++ [x] from by rw [Hsn.out, if_pos ⟨hxn, hcv⟩])
                repeat (first | (refine wpMix_skip rfl ?_; simp only [Act.put, List.setIfInBounds_toArray, List.set_cons_succ, List.set_cons_zero]) | (refine wpMix_calm rfl rfl (fun K hK => ?_); go_big_quiet_op; refine hK _ ?_; clear hK K))
                refine wpMix_nil ?_
                clear hg0 x1 hcv hxn
                go_wp2_with (first | (refine wpList_load_atw rfl 28 (.tmp 52) rfl gs (k * 2) (by go_simp) x.p.cells hcx5 _ Try.underlying28 rfl (by kernel_rfl) ?_) | (refine wpList_buildSlice rfl 41 1 _ rfl #[(0, .agg x.p.cells.toArray)] (by kernel_rfl) Try.underlying41 (.agg (PrefixM.mk 0 0).cells.toArray) 2 (by kernel_rfl) x.p.cells.toArray (by decide) (by decide) (by kernel_rfl) ?_) | (refine wpList_append_newD (w0 := w1) (N := 2) (cells := PrefixM.cells) (xs := (covN l p n ++ covF (l.take k) p n).map (·.p)) (s := ⟨sa, sl, sc⟩) (q := ⟨some ⟨w5.heap.size, 0, none⟩, 1, 1⟩) (ys := [x.p]) (ok := fun _ => True) rfl (.tmp 46) (.tmp 54) 41 rfl Try.underlying41 _ 16 pfx_info (by kernel_rfl) (by decide) PrefixM.length PrefixM.mem rfl (Hnew5.out.fr ((Fr.refl noB w5).alloc _)) (Hf5.out.alloc _) rfl (slof_one PrefixM.length _ trivial) (fun h => by cases h) (by simp only [List.length_singleton, maxLen]; omega) (by simp only [List.length_singleton]; omega) ?_; intro s6 w6 hn6 hf6 hf6' hd6; have Hn6 := hide hn6; have Hf6 := hide hf6; clear hn6 hf6 hf6' hd6 c05 hcx5; obtain ⟨s6a, s6l, s6c⟩ := s6))
                go_roundw
                case rel =>
                  refine ⟨k + 1, ⟨s6a, s6l, s6c⟩, by have := Hdl.out; omega, by go_num, rfl, ?_, Hf6.out⟩
                  rw [HS.out]
                  have := Hn6.out
                  simpa using this
                case measure => have := Hdl.out; simp [intOf]; omega
              | false =>
                have HS := hide (show covF (l.take (k + 1)) p n = covF (l.take k) p n from by rw [Hsn.out, if_neg (by rw [hcv]; simp), List.append_nil])
                repeat (first | (refine wpMix_skip rfl ?_; simp only [Act.put, List.setIfInBounds_toArray, List.set_cons_succ, List.set_cons_zero]) | (refine wpMix_calm rfl rfl (fun K hK => ?_); go_big_quiet_op; refine hK _ ?_; clear hK K))
                refine wpMix_nil ?_
                clear hg0 x1 hcv hxn c05 hcx5
                go_wp2_with fail
                go_roundw
                case rel => exact ⟨k + 1, ⟨sa, sl, sc⟩, by have := Hdl.out; omega, by go_num, rfl, by rw [HS.out]; exact Hnew5.out, Hf5.out⟩
                case measure => have := Hdl.out; simp [intOf]; omega
            · have HS := hide (show covF (l.take (k + 1)) p n = covF (l.take k) p n from by rw [Hsn.out, if_neg (fun h => hxn h.1), List.append_nil])
              have hxn' : (x.p.len == (n : Int)) = false := by simp [hxn]
              repeat (first | (refine wpMix_skip rfl ?_; simp only [Act.put, List.setIfInBounds_toArray, List.set_cons_succ, List.set_cons_zero]) | (refine wpMix_calm rfl rfl (fun K hK => ?_); go_big_quiet_op; refine hK _ ?_; clear hK K))
              refine wpMix_nil ?_
              clear hg0 x1 hxn hxn' c0
              go_wp2_with fail
              go_roundw
              case rel => exact ⟨k + 1, ⟨sa, sl, sc⟩, by have := Hdl.out; omega, by go_num, rfl, by rw [HS.out]; exact Hnew.out.fr (Fr.refl noB wr).drew, Hf4.out.drew⟩
              case measure => have := Hdl.out; simp [intOf]; omega
          · have HE := hide (show NewP w1 wr ⟨sa, sl, sc⟩ ((covN l p (n + 1)).map (·.p)) from by
              have h := Hnew.out
              rw [List.take_of_length_le (by have := Hdl.out; omega)] at h
              exact h)
            clear hg0
            go_wp2_with fail
            go_roundw
            case rel => exact ⟨n + 1, ⟨sa, sl, sc⟩, by omega, by go_num, rfl, HE.out, Hf4.out⟩
            case measure => simp [intOf]; omega
      · obtain rfl : n = 33 := by omega
        have HE := hide (show NewP w1 wr ⟨ta, tl, tc⟩ ((pathX l p).map (·.p)) from by have := Hnew.out; rwa [covN_path HSo.out Hok.out Hn.out] at this)
        go_wp2_with fail
        go_ret
        exact ⟨⟨ta, tl, tc⟩, rfl, ⟨HE.out.1, fun b hb => Nat.le_trans Hf1.out.size (HE.out.2 b hb)⟩, Hf1.out.tr Hf2.out⟩
  · have hdn : decide (p = normP p) = false := decide_eq_false hn
    have HE := hide (show pathX l p = [] from by unfold pathX; rw [if_neg hn])
    clear hn
    go_loopw [5, 6] (CvNo w1) (fun _ n _ => 33 - (intOf n).toNat)
    case atStart => exact ⟨0, by omega, rfl, rfl, Fr.refl _ _⟩
    case round =>
      obtain ⟨n, hle, rfl, rfl, hf2⟩ := hrel
      have Hf2 := hide hf2
      have hc2 : CellsAt wr w.heap.size 0 p.cells := Hc1.out.fr hf2 (fun h => h)
      clear hf2
      have hle' : (n : Int) ≤ 32 := by omega
      go_wp2_with (first | rw [decide_eq_true hle'] | (refine wpList_load_atw rfl 28 _ rfl _ _ rfl (PrefixM.cells _) (by (repeat (first | assumption | exact cells_new _ _ _ (by simp) | refine CellsAt.alloc ?_ _ | refine CellsAt.drew ?_ | refine CellsAt.drewN ?_ _))) _ Try.underlying28 rfl (by kernel_rfl) ?_))
      refine (ref3_Is p Hp.out wr).mono ?_
      rintro e w3 ⟨rfl, hf3⟩
      rw [hdn]
      have Hf3 := hide (Hf2.out.tr hf3)
      clear hf3 hc2
      go_wp2_with fail
      go_ret
      refine ⟨⟨none, 0, 0⟩, rfl, ?_, Hf1.out.tr Hf3.out⟩
      rw [HE.out]
      exact NewL.nil _ _ _ _ _
end Go.Proofs.Ytgjabgneapdbiaa
