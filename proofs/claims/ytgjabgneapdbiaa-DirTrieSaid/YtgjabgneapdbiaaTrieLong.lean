/- trie.Longest, Covers. -/
import Derived.Test.YtgjabgneapdbiaaTrieGet
import Derived.Test.YtgjabgneapdbiaaBase
namespace Go.Proofs.Ytgjabgneapdbiaa
open Go.RowKit Go.BigFrame
set_option linter.unusedSimpArgs false
set_option linter.unusedVariables false
attribute [local irreducible] wpMix wpAnyG

theorem results_ftt {P : Program} {fn : Func} {p u v : Tmp} {ty : TypeId} (h : fn.results = #[.cell p ty, .tmp u, .tmp v]) (tmps : Array Value) (w : World) (b o : Nat) (cs : List Value) (d : TypeDesc)
    (hp : tmps.getD p undef = .pointer (some ⟨b, o, none⟩)) (hc : CellsAt w b o cs) (hu : P.underlying ty = some d) (hd : (match d with | .struct _ | .array _ _ => true | _ => false) = true) (hi : (P.info? ty).map (·.size) = some cs.length)
    (x y : Value) (hx : tmps.getD u undef = x) (hy : tmps.getD v undef = y) : (results fn tmps).run P w = .ok (.tuple #[.agg cs.toArray, x, y]) w := by
  have hp' : tmps[p]?.getD undef = .pointer (some ⟨b, o, none⟩) := by simpa using hp
  have hl := run_loadVar_at (P := P) w ty b o cs hc d hu hd hi
  subst hx; subst hy
  simp [results, h, hp', asAddr, Sem.run_bind, hl]
/-- What Longest answers. -/
def longV (o : Option EntM) : Value := match o with | some x => .tuple #[.agg x.p.cells.toArray, .int .i64 x.v, .bool true] | none => .tuple #[.agg (PrefixM.mk 0 0).cells.toArray, .int .i64 0, .bool false]
theorem PrefixM.onea (x : PrefixM) : x.cells.toArray.all (·.oneCell') = true := by
  rw [List.all_toArray]
  rfl
set_option maxRecDepth 100000 in
set_option maxHeartbeats 4000000 in
theorem long_from (a : Option Addr) (w : World) (x : Nat) (es : List EntM) (hes : es.length ≤ 1000000) (hpath : ∀ w1, Fr noB w w1 → Calls Try.prog 56 #[.pointer a, .agg (addrP x).cells.toArray] w1 (PathTo w1 es)) :
    Calls Try.prog 26 #[.pointer a, .int .u32 (x : Nat)] w fun e w' => e = .returned (longV es.getLast?) ∧ Fr noB w w' := by
  have Hpath := hide hpath
  clear hpath
  go_enter Try.func26, Try.ntmps26
  go_upto_region 1 with (fail)
  refine wp_gen (fun W => Blk W w.heap.size (PrefixM.mk 0 0).cells.toArray 28 ∧ Fr noB w W) ⟨Blk.alloc_new w _ _, (Fr.refl _ _).alloc _⟩ ?_
  rintro w1 ⟨hb, hf⟩
  have Hb := hide hb; have Hf := hide hf
  clear hf hb
  go_wp2_with (refine wpList_build_as rfl 28 _ rfl (addrP x).cells.toArray (by kernel_rfl) ?_)
  refine (Hpath.out w1 Hf.out).mono ?_
  rintro e w2 ⟨⟨sa, sl, sc⟩, ns, rfl, hn, hes2, hf2⟩
  have Hn := hide hn; have Hes := hide hes2; have Hf2 := hide (Hf.out.tr hf2); have Hb2 := hide (Hb.out.fr hf2 (fun h => h))
  have hsl : sl = ns.length := hn.1.1
  have Hsl := hide hsl
  have hslm : sl ≤ 1000000 := by rw [hsl, ← List.length_map (f := NodeM.ent), hes2]; exact hes
  clear hn hes2 hf2 hsl
  cases hns : ns with
  | nil =>
    have h0 : sl = 0 := by rw [Hsl.out, hns]; rfl
    have HV := hide (show longV es.getLast? = longV none from by rw [← Hes.out, hns]; rfl)
    subst h0
    clear hns
    go_wp2_with (first | (refine wpList_build_as rfl 28 _ rfl (PrefixM.mk 0 0).cells.toArray (by kernel_rfl) ?_) | (refine wpList_store_row rfl 28 (.tmp 4) (.tmp 16) rfl _ (PrefixM.mk 0 0).cells.toArray rfl rfl _ _ Hb2.out (by kernel_rfl) rfl (PrefixM.onea _) ?_))
    rw [HV.out]
    exact bodyPost_ret (v := longV none) (results_ftt Try.results26 _ _ _ 0 (PrefixM.mk 0 0).cells _ rfl (Blk.cells (Hb2.out.setRow)) Try.underlying28 rfl (by kernel_rfl) _ _ rfl rfl) rfl ⟨rfl, Hf2.out.setRow (.inl (Nat.le_refl _)) _⟩
  | cons n0 ns0 =>
    obtain ⟨m, hm⟩ : ∃ m, m + 1 = ns.length := ⟨ns0.length, by rw [hns]; rfl⟩
    have hml : m < ns.length := by omega
    have hx : ns[m]? = some ns[m] := List.getElem?_eq_getElem hml
    clear hns
    generalize ns[m] = n at hx
    obtain ⟨gs, rfl, _, hcn, _⟩ := own_at Hn.out.1 NodeM.length hx
    have hlast := ent_last hx hm
    have HV := hide (show longV es.getLast? = longV (some n.ent) from by rw [← Hes.out, hlast])
    have hsm : sl = m + 1 := by have := Hsl.out; omega
    subst hsm
    have hz : ((m : Int) + 1 == 0) = false := by simp only [beq_eq_false_iff_ne, ne_eq]; omega
    have hmul : ((m : Int) * 6).toNat = m * 6 := by omega
    clear hx hlast hm hml
    go_upto_region 5 with (first | (refine wpList_load_at rfl 87 (.tmp 21) rfl gs (m * 6) (by go_simp) n.cells hcn _ Try.underlying87 rfl (by kernel_rfl) ?_) | (refine wpList_store_new rfl 87 _ _ rfl _ _ n.cells _ rfl rfl (by simp) (by kernel_rfl) rfl (by kernel_rfl) ?_))
    simp only [Act.put, List.setIfInBounds_toArray, List.set_cons_succ, List.set_cons_zero]
    refine wp_gen (fun W => CellsAt W w2.heap.size 0 n.cells ∧ Fr noB w2 W) ⟨cells_new _ _ _ rfl, (Fr.refl _ _).alloc _⟩ ?_
    rintro w3 ⟨hc3, hf3⟩
    have hw2 : w.heap.size < w2.heap.size := Hb2.out.lt
    have Hb3 := hide (Hb2.out.fr hf3 (fun h => h)); have Hf3 := hide (Hf2.out.tr hf3); have Hc3 := hide hc3
    have cv : ∀ z : GrowS (oneB w.heap.size) w3, z.v.cell? ⟨w2.heap.size, 2, none⟩ = some (.int .i64 n.v) := fun z => by have h := (Hc3.out.fr z.fr (fun e => by unfold oneB at e; omega)) 2 _ rfl; rwa [Nat.zero_add] at h
    clear hcn hc3 hf3
    refine wp_region_mix (fun W => ∃ z : GrowS (oneB w.heap.size) w3, W = z.v) (by kernel_rfl) (by kernel_rfl) (inGrowS (Fr.refl _ _).drew) ?_
    (first | (refine wpMix_skip rfl ?_; simp only [Act.put, List.setIfInBounds_toArray, List.set_cons_succ, List.set_cons_zero]) | (refine wpMix_calm rfl rfl (fun K hK => ?_); go_big_quiet_op; refine hK _ ?_; clear hK K))
    refine wpMix_load_atw rfl 28 (.tmp 23) rfl w2.heap.size 0 rfl n.p.cells (fun W hW => by obtain ⟨z, rfl⟩ := hW; exact node_pfx (Hc3.out.fr z.fr (fun e => by unfold oneB at e; omega))) _ Try.underlying28 rfl (by kernel_rfl) ?_
    simp only [Act.put, List.setIfInBounds_toArray, List.set_cons_succ, List.set_cons_zero]
    iterate 2 (first | (refine wpMix_skip rfl ?_; simp only [Act.put, List.setIfInBounds_toArray, List.set_cons_succ, List.set_cons_zero]) | (refine wpMix_calm rfl rfl (fun K hK => ?_); go_big_quiet_op; refine hK _ ?_; clear hK K))
    refine wpMix_store_blk rfl 28 (.tmp 4) (.tmp 24) rfl w.heap.size n.p.cells rfl rfl _ _ (show Blk w3.drew w.heap.size _ _ from Hb3.out) rfl (by kernel_rfl) (PrefixM.mem _) (inGrowS ((Fr.refl (oneB w.heap.size) w3).drew.setRow (.inr rfl) _)) ?_
    simp only [Act.put, List.setIfInBounds_toArray, List.set_cons_succ, List.set_cons_zero]
    repeat (first | (refine wpMix_skip rfl ?_; simp only [Act.put, List.setIfInBounds_toArray, List.set_cons_succ, List.set_cons_zero]) | (refine wpMix_calm rfl rfl (fun K hK => ?_); go_big_quiet_op; refine hK _ ?_; clear hK K))
    refine wpMix_nil ?_
    have Hb4 := hide (show Blk (w3.drew.setRow w.heap.size n.p.cells.toArray) w.heap.size n.p.cells.toArray 28 from Blk.setRow (cs := (PrefixM.mk 0 0).cells.toArray) (show Blk w3.drew w.heap.size _ _ from Hb3.out))
    have Hf4 := hide (show Fr noB w (w3.drew.setRow w.heap.size n.p.cells.toArray) from Hf3.out.drew.setRow (.inl (Nat.le_refl _)) _)
    generalize w3.drew.setRow w.heap.size n.p.cells.toArray = w4 at *
    clear cv
    go_wp2_with fail
    rw [HV.out]
    exact bodyPost_ret (v := longV (some n.ent)) (results_ftt Try.results26 _ _ _ 0 n.p.cells _ rfl (Blk.cells Hb4.out) Try.underlying28 rfl (by kernel_rfl) _ _ rfl rfl) rfl ⟨rfl, Hf4.out⟩
theorem trie_long (w : World) (F : Nat → Prop) (g : Nat) (l : List EntM) (m : Nat) (h : Trie w F g l m) (x : Nat) (hx : x < 4294967296) :
    Calls Try.prog 26 #[.pointer (some ⟨g, 0, none⟩), .int .u32 (x : Nat)] w fun e w' => e = .returned (longV (longE l x)) ∧ Fr noB w w' :=
  long_from _ w x (pathX l (addrP x)) (Nat.le_trans (pathX_len l _) h.le) (fun w1 hf => trie_pathX w1 F g l m (h.frN hf) _ (addrP_ok hx).2)
theorem trie_long_nil (w : World) (x : Nat) : Calls Try.prog 26 #[.pointer none, .int .u32 (x : Nat)] w fun e w' => e = .returned (longV none) ∧ Fr noB w w' :=
  long_from none w x [] (Nat.zero_le _) (fun w1 _ => trie_path_nil w1 _)

/-! ### Covers -/
def CovAt (w0 : World) (ns : List NodeM) (iv lv : Value) (wr : World) : Prop := ∃ (k : Nat) (s : SlV), k ≤ ns.length ∧ iv = .int .i64 k ∧ lv = .slice s.a s.len s.cap ∧ NewP w0 wr s ((ns.take k).map (·.p)) ∧ Fr noB w0 wr
set_option maxRecDepth 100000 in
set_option maxHeartbeats 4000000 in
theorem covers_from (a : Option Addr) (w : World) (p : PrefixM) (es : List EntM) (hes : es.length ≤ 1000000) (hpath : ∀ w1, Fr noB w w1 → Calls Try.prog 56 #[.pointer a, .agg p.cells.toArray] w1 (PathTo w1 es)) :
    Calls Try.prog 29 #[.pointer a, .agg p.cells.toArray] w (ListTo w (es.map (·.p))) := by
  have Hpath := hide hpath
  clear hpath
  go_enter Try.func29, Try.ntmps29
  go_upto_region 1 with (fail)
  refine wp_gen (fun W => CellsAt W w.heap.size 0 p.cells ∧ Fr noB w W) ⟨by (repeat (first | assumption | exact cells_new _ _ _ (by simp) | refine CellsAt.alloc ?_ _ | refine CellsAt.drew ?_ | refine CellsAt.drewN ?_ _)), (Fr.refl _ _).alloc _⟩ ?_
  rintro w1 ⟨hc, hf⟩
  have Hf := hide hf
  clear hf
  go_wp2_with (refine wpList_load_atw rfl 28 _ rfl _ _ rfl (PrefixM.cells _) (by (repeat (first | assumption | exact cells_new _ _ _ (by simp) | refine CellsAt.alloc ?_ _ | refine CellsAt.drew ?_ | refine CellsAt.drewN ?_ _))) _ Try.underlying28 rfl (by kernel_rfl) ?_)
  refine (Hpath.out w1 Hf.out).mono ?_
  rintro e w2 ⟨⟨sa, sl, sc⟩, ns, rfl, hn, hes2, hf2⟩
  have Hn := hide hn; have Hes := hide hes2; have Hf2 := hide (Hf.out.tr hf2)
  have hsl : sl = ns.length := hn.1.1
  have Hsl := hide hsl
  have hslm : sl ≤ 1000000 := by rw [hsl, ← List.length_map (f := NodeM.ent), hes2]; exact hes
  clear hn hes2 hf2 hc hsl
  go_wp2_with fail
  go_loopw [12, 5] (CovAt w2 ns) (fun i _ _ => sl - (intOf i).toNat)
  case atStart => exact ⟨0, ⟨none, 0, 0⟩, Nat.zero_le _, rfl, rfl, NewL.nil _ _ _ _ _, Fr.refl _ _⟩
  case round =>
    obtain ⟨k, ⟨ta, tl, tc⟩, hk, rfl, rfl, hnew, hf3⟩ := hrel
    have Hnew := hide hnew; have Hf3 := hide hf3; have Hk := hide hk
    have htl : tl = ((ns.take k).map (·.p)).length := hnew.1.1
    have htlm : tl ≤ 1000000 := by rw [htl, List.length_map, List.length_take]; have := Hsl.out; omega
    have hpre : ((ns.take k).map (·.p)).length ≤ 1000000 := by omega
    clear hnew hf3 hk htl
    by_cases hlt : k < sl
    · have hk2 : k < ns.length := by have := Hsl.out; omega
      have hx : ns[k]? = some ns[k] := List.getElem?_eq_getElem hk2
      generalize ns[k] = n at hx
      have Hx := hide hx
      obtain ⟨gs, rfl, _, hcn, _⟩ := own_at (Hn.out.1.fr Hf3.out (fun _ _ h => h)) NodeM.length hx
      have hmul : ((k : Int) * 6).toNat = k * 6 := by omega
      clear hx
      go_upto_region 5 with (first | (refine wpList_load_at rfl 87 (.tmp 14) rfl gs (k * 6) (by go_simp) n.cells hcn _ Try.underlying87 rfl (by kernel_rfl) ?_) | (refine wpList_store_new rfl 87 _ _ rfl _ _ n.cells _ rfl rfl (by simp) (by kernel_rfl) rfl (by kernel_rfl) ?_))
      refine wp_gen (fun W => CellsAt W wr.heap.size 0 n.cells ∧ Fr noB wr W) ⟨cells_new _ _ _ rfl, (Fr.refl _ _).alloc _⟩ ?_
      rintro w4 ⟨hc4, hf4⟩
      have hcp := node_pfx hc4
      have Hf4 := hide (Hf3.out.tr hf4)
      have Hnew4 : Hid (NewP w2 w4 ⟨ta, tl, tc⟩ ((ns.take k).map (·.p))) := hide (Hnew.out.fr hf4)
      clear hcn hc4 hf4
      go_wp2_with (first | (refine wpList_load_at rfl 28 (.tmp 17) rfl wr.heap.size 0 rfl n.p.cells hcp _ Try.underlying28 rfl (by kernel_rfl) ?_) | (refine wpList_buildSlice rfl 41 1 _ rfl #[(0, .agg n.p.cells.toArray)] (by kernel_rfl) Try.underlying41 (.agg (PrefixM.mk 0 0).cells.toArray) 2 (by kernel_rfl) n.p.cells.toArray (by decide) (by decide) (by kernel_rfl) ?_) | (refine wpList_append_newD (w0 := w2) (N := 2) (cells := PrefixM.cells) (xs := (ns.take k).map (·.p)) (s := ⟨ta, tl, tc⟩) (q := ⟨some ⟨w4.heap.size, 0, none⟩, 1, 1⟩) (ys := [n.p]) (ok := fun _ => True) rfl (.tmp 16) (.tmp 19) 41 rfl Try.underlying41 _ 16 pfx_info (by kernel_rfl) (by decide) PrefixM.length PrefixM.mem rfl (Hnew4.out.fr ((Fr.refl noB w4).alloc _)) (Hf4.out.alloc _) rfl (slof_one PrefixM.length _ trivial) (fun h => by cases h) (by simp only [List.length_singleton, maxLen]; omega) (by simp only [List.length_singleton]; omega) ?_; intro s5 w5 hn5 hf5 hf5' hd5; have Hn5 := hide hn5; have Hf5 := hide hf5; clear hn5 hf5 hf5' hd5; obtain ⟨s5a, s5l, s5c⟩ := s5))
      go_roundw
      case rel =>
        refine ⟨k + 1, ⟨s5a, s5l, s5c⟩, by omega, by go_num, rfl, ?_, Hf5.out⟩
        have h := Hn5.out
        rw [List.take_add_one, Hx.out]
        simpa using h
      case measure => simp [intOf]; omega
    · have HA := hide (show (ns.take k).map (·.p) = es.map (·.p) from by
        rw [List.take_of_length_le (by have := Hsl.out; omega), ← Hes.out, List.map_map]; rfl)
      go_wp2_with fail
      go_ret
      refine ⟨⟨ta, tl, tc⟩, rfl, ?_, Hf2.out.tr Hf3.out⟩
      rw [← HA.out]
      exact ⟨Hnew.out.1, fun b hb => Nat.le_trans Hf2.out.size (Hnew.out.2 b hb)⟩
theorem trie_covers (w : World) (F : Nat → Prop) (g : Nat) (l : List EntM) (m : Nat) (h : Trie w F g l m) (p : PrefixM) (hp : p.wf) :
    Calls Try.prog 29 #[.pointer (some ⟨g, 0, none⟩), .agg p.cells.toArray] w (ListTo w ((pathX l p).map (·.p))) :=
  covers_from _ w p (pathX l p) (Nat.le_trans (pathX_len l p) h.le) (fun w1 hf => trie_pathX w1 F g l m (h.frN hf) p hp)
theorem trie_covers_nil (w : World) (p : PrefixM) : Calls Try.prog 29 #[.pointer none, .agg p.cells.toArray] w (ListTo w []) :=
  covers_from none w p [] (Nat.zero_le _) (fun w1 _ => trie_path_nil w1 p)
end Go.Proofs.Ytgjabgneapdbiaa
