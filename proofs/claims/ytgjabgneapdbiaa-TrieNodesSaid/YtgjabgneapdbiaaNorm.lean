/- addr.Norm, Is, and the document's Norm, Is, Before. -/
import Derived.Test.YtgjabgneapdbiaaAddr
import Derived.Test.YtgjabgneapdbiaaMirrorT
import Derived.Test.YtgjabgneapdbiaaAny
import Derived.Test.YtgjabgneapdbiaaMix2
import Derived.Deep.DeepCutAuto
namespace Go.Proofs.Ytgjabgneapdbiaa
open Go.RowKit Go.BigFrame
set_option linter.unusedSimpArgs false
set_option linter.unusedVariables false
attribute [local irreducible] wpMix wpAnyG

abbrev InGrow (w : World) (w' : World) : Prop := ∃ z : Grow w, w' = z.v
theorem inGrow {w w' : World} (h : Fr noB w w') : InGrow w w' := ⟨⟨w', h⟩, rfl⟩
theorem grow_fr {w w' : World} (h : InGrow w w') : Fr noB w w' := by obtain ⟨z, rfl⟩ := h; exact z.fr

def normP (p : PrefixM) : PrefixM := ⟨normN p.addr p.len, heldI p.len⟩
theorem normP_wf (p : PrefixM) : (normP p).wf := ⟨normN_lt _ _, by have := heldI_bd p.len; unfold i64b; simp only [normP]; omega⟩
theorem prefix_equal (a b : PrefixM) (w : World) : (Op.equal 28 (.agg a.cells.toArray) (.agg b.cells.toArray)).run Try.prog w = .ok (decide (a = b)) w := by
  obtain ⟨a1, a2⟩ := a
  obtain ⟨b1, b2⟩ := b
  simp only [PrefixM.cells, Op.equal, Op.maxDepth]
  go_simp
  by_cases h1 : a1 = b1
  · by_cases h2 : a2 = b2
    · simp [h1, h2]
    · simp [h1, h2]
  · have : ¬ (a1 : Int) = (b1 : Int) := by omega
    simp [h1, this]
theorem results_s {P : Program} {fn : Func} {p : Tmp} {ty : TypeId} (h : fn.results = #[.cell p ty]) (tmps : Array Value) (w : World) (b o : Nat) (cs : List Value) (d : TypeDesc)
    (hp : tmps.getD p undef = .pointer (some ⟨b, o, none⟩)) (hc : CellsAt w b o cs) (hu : P.underlying ty = some d) (hd : (match d with | .struct _ | .array _ _ => true | _ => false) = true) (hi : (P.info? ty).map (·.size) = some cs.length) :
    (results fn tmps).run P w = .ok (.agg cs.toArray) w := by
  have hp' : tmps[p]?.getD undef = .pointer (some ⟨b, o, none⟩) := by simpa using hp
  have hl := run_loadVar_at (P := P) w ty b o cs hc d hu hd hi
  simp [results, h, hp', asAddr, Sem.run_bind, hl]

set_option maxHeartbeats 400000 in
theorem addr_Norm (p : PrefixM) (hp : p.wf) (w : World) :
    Calls Try.prog 73 #[.agg p.cells.toArray] w fun e w' => e = .returned (.agg (normP p).cells.toArray) ∧ Fr noB w w' := by
  have hnorm : bits .and .u32 (p.addr : Int) ((maskN (heldN p.len) : Nat) : Int) = ((normN p.addr p.len : Nat) : Int) := by rw [u32_and_nat _ _ hp.1 (maskN_lt _)]; rfl
  have Hn := hide hnorm
  clear hnorm
  show Calls Try.prog 73 #[.agg #[.int .u32 (p.addr : Nat), .int .i64 p.len]] w _
  go_enter Try.func73, Try.ntmps73
  go_upto_region 1 with (fail)
  refine wp_gen (fun W => CellsAt W w.heap.size 0 p.cells ∧ Blk W (w.heap.size + 1) (PrefixM.mk 0 0).cells.toArray 28 ∧ Fr noB w W) ⟨cells_new _ _ _ rfl |>.alloc _, ?_, ((Fr.refl _ _).alloc _).alloc _⟩ ?_
  · have h := Blk.alloc_new (w.alloc (.cells p.cells.toArray 28)) (PrefixM.mk 0 0).cells.toArray 28
    rw [World.size_alloc] at h
    exact h
  rintro w1 ⟨hc, hb, hf⟩
  have c0 : ∀ z : Grow w1, z.v.cell? ⟨w.heap.size, 0, none⟩ = some (.int .u32 (p.addr : Nat)) := fun z => (hc.fr z.fr (fun h => h)) 0 _ rfl
  have c1 : ∀ z : Grow w1, z.v.cell? ⟨w.heap.size, 1, none⟩ = some (.int .i64 p.len) := fun z => by have := (hc.fr z.fr (fun h => h)) 1 _ rfl; rwa [Nat.zero_add] at this
  have HB := hide hb; have Hf := hide hf
  clear hc hb hf
  refine wp_region_mixT 10 (fun W => ∃ z : Grow w1, W = z.v) (by kernel_rfl) (by kernel_rfl) (inGrow (Fr.refl _ _).drew) ?_
  simp only [List.take_succ_cons, List.take_zero, List.drop_succ_cons, List.drop_zero]
  iterate 4 (first | (refine wpMix_skip rfl ?_; simp only [Act.put, List.setIfInBounds_toArray, List.set_cons_succ, List.set_cons_zero]) | (refine wpMix_calm rfl rfl (fun K hK => ?_); go_big_quiet_op; refine hK _ ?_; clear hK K))
  refine wpMix_spine rfl rfl (fun K hK => ?_); go_wp2_with fail
  refine (addr_Mask p.len _).mono ?_
  rintro e w' ⟨rfl, rfl⟩
  refine hK _ _ rfl (inGrow (Fr.refl _ _).drew) ?_
  clear hK K
  iterate 3 (first | (refine wpMix_skip rfl ?_; simp only [Act.put, List.setIfInBounds_toArray, List.set_cons_succ, List.set_cons_zero]) | (refine wpMix_calm rfl rfl (fun K hK => ?_); go_big_quiet_op; refine hK _ ?_; clear hK K))
  refine wpMix_spine rfl rfl (fun K hK => ?_); go_wp2_with fail
  refine (addr_held p.len _).mono ?_
  rintro e w' ⟨rfl, rfl⟩
  refine hK _ _ rfl (inGrow (Fr.refl _ _).drew) ?_
  clear hK K
  rw [Hn.out]
  repeat (first | (refine wpMix_skip rfl ?_; simp only [Act.put, List.setIfInBounds_toArray, List.set_cons_succ, List.set_cons_zero]) | (refine wpMix_calm rfl rfl (fun K hK => ?_); go_big_quiet_op; refine hK _ ?_; clear hK K))
  refine wpMix_nil ?_
  clear c0 c1
  have HBd : Hid (Blk w1.drew (w.heap.size + 1) (PrefixM.mk 0 0).cells.toArray 28) := HB
  refine wpList_store_row rfl 28 (.tmp 2) (.tmp 12) rfl _ (normP p).cells.toArray rfl rfl _ _ HBd.out (by kernel_rfl) rfl (by kernel_rfl) ?_
  simp only [Act.put, List.setIfInBounds_toArray, List.set_cons_succ, List.set_cons_zero]
  go_wp2_with fail
  exact bodyPost_ret (results_s Try.results73 _ _ _ 0 (normP p).cells _ rfl (Blk.cells (HBd.out.setRow)) Try.underlying28 rfl (by kernel_rfl)) rfl ⟨rfl, Hf.out.drew.setRow (.inl (by omega)) _⟩
set_option maxHeartbeats 400000 in
theorem ref3_Norm (p : PrefixM) (hp : p.wf) (w : World) :
    Calls Try.prog 24 #[.agg p.cells.toArray] w fun e w' => e = .returned (.agg (normP p).cells.toArray) ∧ Fr noB w w' := by
  have hnorm : bits .and .u32 (p.addr : Int) ((maskN (heldN p.len) : Nat) : Int) = ((normN p.addr p.len : Nat) : Int) := by rw [u32_and_nat _ _ hp.1 (maskN_lt _)]; rfl
  have Hn := hide hnorm
  clear hnorm
  show Calls Try.prog 24 #[.agg #[.int .u32 (p.addr : Nat), .int .i64 p.len]] w _
  go_enter Try.func24, Try.ntmps24
  go_upto_region 1 with (fail)
  refine wp_gen (fun W => CellsAt W w.heap.size 0 p.cells ∧ Blk W (w.heap.size + 1) (PrefixM.mk 0 0).cells.toArray 28 ∧ Fr noB w W) ⟨cells_new _ _ _ rfl |>.alloc _, ?_, ((Fr.refl _ _).alloc _).alloc _⟩ ?_
  · have h := Blk.alloc_new (w.alloc (.cells p.cells.toArray 28)) (PrefixM.mk 0 0).cells.toArray 28
    rw [World.size_alloc] at h
    exact h
  rintro w1 ⟨hc, hb, hf⟩
  have c0 : ∀ z : Grow w1, z.v.cell? ⟨w.heap.size, 0, none⟩ = some (.int .u32 (p.addr : Nat)) := fun z => (hc.fr z.fr (fun h => h)) 0 _ rfl
  have c1 : ∀ z : Grow w1, z.v.cell? ⟨w.heap.size, 1, none⟩ = some (.int .i64 p.len) := fun z => by have := (hc.fr z.fr (fun h => h)) 1 _ rfl; rwa [Nat.zero_add] at this
  have HB := hide hb; have Hf := hide hf
  clear hc hb hf
  refine wp_region_mixT 10 (fun W => ∃ z : Grow w1, W = z.v) (by kernel_rfl) (by kernel_rfl) (inGrow (Fr.refl _ _).drew) ?_
  simp only [List.take_succ_cons, List.take_zero, List.drop_succ_cons, List.drop_zero]
  iterate 4 (first | (refine wpMix_skip rfl ?_; simp only [Act.put, List.setIfInBounds_toArray, List.set_cons_succ, List.set_cons_zero]) | (refine wpMix_calm rfl rfl (fun K hK => ?_); go_big_quiet_op; refine hK _ ?_; clear hK K))
  refine wpMix_spine rfl rfl (fun K hK => ?_); go_wp2_with fail
  refine (ref3_Mask p.len _).mono ?_
  rintro e w' ⟨rfl, rfl⟩
  refine hK _ _ rfl (inGrow (Fr.refl _ _).drew) ?_
  clear hK K
  iterate 3 (first | (refine wpMix_skip rfl ?_; simp only [Act.put, List.setIfInBounds_toArray, List.set_cons_succ, List.set_cons_zero]) | (refine wpMix_calm rfl rfl (fun K hK => ?_); go_big_quiet_op; refine hK _ ?_; clear hK K))
  refine wpMix_spine rfl rfl (fun K hK => ?_); go_wp2_with fail
  refine (ref3_hold p.len _).mono ?_
  rintro e w' ⟨rfl, rfl⟩
  refine hK _ _ rfl (inGrow (Fr.refl _ _).drew) ?_
  clear hK K
  rw [Hn.out]
  repeat (first | (refine wpMix_skip rfl ?_; simp only [Act.put, List.setIfInBounds_toArray, List.set_cons_succ, List.set_cons_zero]) | (refine wpMix_calm rfl rfl (fun K hK => ?_); go_big_quiet_op; refine hK _ ?_; clear hK K))
  refine wpMix_nil ?_
  clear c0 c1
  have HBd : Hid (Blk w1.drew (w.heap.size + 1) (PrefixM.mk 0 0).cells.toArray 28) := HB
  refine wpList_store_row rfl 28 (.tmp 2) (.tmp 12) rfl _ (normP p).cells.toArray rfl rfl _ _ HBd.out (by kernel_rfl) rfl (by kernel_rfl) ?_
  simp only [Act.put, List.setIfInBounds_toArray, List.set_cons_succ, List.set_cons_zero]
  go_wp2_with fail
  exact bodyPost_ret (results_s Try.results24 _ _ _ 0 (normP p).cells _ rfl (Blk.cells (HBd.out.setRow)) Try.underlying28 rfl (by kernel_rfl)) rfl ⟨rfl, Hf.out.drew.setRow (.inl (by omega)) _⟩

set_option maxHeartbeats 400000 in
theorem addr_Is (p : PrefixM) (hp : p.wf) (w : World) :
    Calls Try.prog 52 #[.agg p.cells.toArray] w fun e w' => e = .returned (.bool (decide (p = normP p))) ∧ Fr noB w w' := by
  go_enter Try.func52, Try.ntmps52
  go_upto_region 1 with (fail)
  refine wp_gen (fun W => CellsAt W w.heap.size 0 p.cells ∧ Fr noB w W) ⟨by (repeat (first | assumption | exact cells_new _ _ _ (by simp) | refine CellsAt.alloc ?_ _ | refine CellsAt.drew ?_ | refine CellsAt.drewN ?_ _)), (Fr.refl _ _).alloc _⟩ ?_
  rintro w1 ⟨hc, hf⟩
  have Hf := hide hf
  clear hf
  refine wp_region_mix (fun W => ∃ z : Grow w1, W = z.v) (by kernel_rfl) (by kernel_rfl) (inGrow (Fr.refl _ _).drew) ?_
  (refine wpMix_load_atw rfl 28 (.tmp 1) rfl _ _ rfl (PrefixM.cells _) (fun W hW => by obtain ⟨z, rfl⟩ := hW; exact CellsAt.fr (by (repeat (first | assumption | exact cells_new _ _ _ (by simp) | refine CellsAt.alloc ?_ _ | refine CellsAt.drew ?_ | refine CellsAt.drewN ?_ _))) z.fr (fun h => h)) _ Try.underlying28 rfl (by kernel_rfl) ?_; simp only [Act.put, List.setIfInBounds_toArray, List.set_cons_succ, List.set_cons_zero])
  (refine wpMix_load_atw rfl 28 (.tmp 1) rfl _ _ rfl (PrefixM.cells _) (fun W hW => by obtain ⟨z, rfl⟩ := hW; exact CellsAt.fr (by (repeat (first | assumption | exact cells_new _ _ _ (by simp) | refine CellsAt.alloc ?_ _ | refine CellsAt.drew ?_ | refine CellsAt.drewN ?_ _))) z.fr (fun h => h)) _ Try.underlying28 rfl (by kernel_rfl) ?_; simp only [Act.put, List.setIfInBounds_toArray, List.set_cons_succ, List.set_cons_zero])
  refine wpMix_spine rfl rfl (fun K hK => ?_); go_wp2_with fail
  refine (addr_Norm p hp _).mono ?_
  rintro e w2 ⟨rfl, f2⟩
  have f2 : Fr noB w1 w2 := (Fr.refl _ _).drew.tr f2
  have Hf2 := hide (Hf.out.tr f2)
  refine hK _ _ rfl (inGrow f2) ?_
  clear hK K f2
  refine wpMix_eqs rfl false 28 (.tmp 3) (.tmp 5) rfl p.cells.toArray (normP p).cells.toArray rfl rfl _ (by kernel_rfl) (fun w => prefix_equal _ _ w) ?_
  simp only [Act.put, List.setIfInBounds_toArray, List.set_cons_succ, List.set_cons_zero]
  simp only [Bool.false_bne]
  repeat (first | (refine wpMix_skip rfl ?_; simp only [Act.put, List.setIfInBounds_toArray, List.set_cons_succ, List.set_cons_zero]) | (refine wpMix_calm rfl rfl (fun K hK => ?_); go_big_quiet_op; refine hK _ ?_; clear hK K))
  refine wpMix_nil ?_
  clear hc
  go_wp2_with fail
  go_ret
  exact ⟨ret_bool (by simp), Hf2.out⟩
set_option maxHeartbeats 400000 in
theorem ref3_Is (p : PrefixM) (hp : p.wf) (w : World) :
    Calls Try.prog 57 #[.agg p.cells.toArray] w fun e w' => e = .returned (.bool (decide (p = normP p))) ∧ Fr noB w w' := by
  go_enter Try.func57, Try.ntmps57
  go_upto_region 1 with (fail)
  refine wp_gen (fun W => CellsAt W w.heap.size 0 p.cells ∧ Fr noB w W) ⟨by (repeat (first | assumption | exact cells_new _ _ _ (by simp) | refine CellsAt.alloc ?_ _ | refine CellsAt.drew ?_ | refine CellsAt.drewN ?_ _)), (Fr.refl _ _).alloc _⟩ ?_
  rintro w1 ⟨hc, hf⟩
  have Hf := hide hf
  clear hf
  refine wp_region_mix (fun W => ∃ z : Grow w1, W = z.v) (by kernel_rfl) (by kernel_rfl) (inGrow (Fr.refl _ _).drew) ?_
  (refine wpMix_load_atw rfl 28 (.tmp 1) rfl _ _ rfl (PrefixM.cells _) (fun W hW => by obtain ⟨z, rfl⟩ := hW; exact CellsAt.fr (by (repeat (first | assumption | exact cells_new _ _ _ (by simp) | refine CellsAt.alloc ?_ _ | refine CellsAt.drew ?_ | refine CellsAt.drewN ?_ _))) z.fr (fun h => h)) _ Try.underlying28 rfl (by kernel_rfl) ?_; simp only [Act.put, List.setIfInBounds_toArray, List.set_cons_succ, List.set_cons_zero])
  refine wpMix_spine rfl rfl (fun K hK => ?_); go_wp2_with fail
  refine (ref3_Norm p hp _).mono ?_
  rintro e w2 ⟨rfl, f2⟩
  have f2 : Fr noB w1 w2 := (Fr.refl _ _).drew.tr f2
  have Hf2 := hide (Hf.out.tr f2)
  refine hK _ _ rfl (inGrow f2) ?_
  clear hK K f2
  (refine wpMix_load_atw rfl 28 (.tmp 1) rfl _ _ rfl (PrefixM.cells _) (fun W hW => by obtain ⟨z, rfl⟩ := hW; exact CellsAt.fr (by (repeat (first | assumption | exact cells_new _ _ _ (by simp) | refine CellsAt.alloc ?_ _ | refine CellsAt.drew ?_ | refine CellsAt.drewN ?_ _))) z.fr (fun h => h)) _ Try.underlying28 rfl (by kernel_rfl) ?_; simp only [Act.put, List.setIfInBounds_toArray, List.set_cons_succ, List.set_cons_zero])
  refine wpMix_eqs rfl false 28 (.tmp 4) (.tmp 5) rfl (normP p).cells.toArray p.cells.toArray rfl rfl (decide (p = normP p)) (by kernel_rfl) (fun w => by rw [prefix_equal]; congr 1; exact decide_eq_decide.2 eq_comm) ?_
  simp only [Act.put, List.setIfInBounds_toArray, List.set_cons_succ, List.set_cons_zero]
  repeat (first | (refine wpMix_skip rfl ?_; simp only [Act.put, List.setIfInBounds_toArray, List.set_cons_succ, List.set_cons_zero]) | (refine wpMix_calm rfl rfl (fun K hK => ?_); go_big_quiet_op; refine hK _ ?_; clear hK K))
  refine wpMix_nil ?_
  clear hc
  go_wp2_with fail
  go_ret
  exact ⟨ret_bool (by simp), Hf2.out⟩

def beforeB (p q : PrefixM) : Bool := if p.addr = q.addr then decide (p.len < q.len) else decide (p.addr < q.addr)
set_option maxHeartbeats 400000 in
theorem ref3_Before (p q : PrefixM) (w : World) :
    Calls Try.prog 79 #[.agg p.cells.toArray, .agg q.cells.toArray] w fun e w' => e = .returned (.bool (beforeB p q)) ∧ Fr noB w w' := by
  obtain ⟨p1, p2⟩ := p
  obtain ⟨q1, q2⟩ := q
  show Calls Try.prog 79 #[.agg #[.int .u32 (p1 : Nat), .int .i64 p2], .agg #[.int .u32 (q1 : Nat), .int .i64 q2]] w _
  by_cases h : p1 = q1
  · subst h
    have H := hide (show beforeB ⟨p1, p2⟩ ⟨p1, q2⟩ = decide (p2 < q2) from by unfold beforeB; simp)
    go_enter Try.func79, Try.ntmps79
    go_wp2_with fail
    go_ret
    exact ⟨ret_bool H.out.symm, ((Fr.refl _ _).alloc _).alloc _⟩
  · have H := hide (show beforeB ⟨p1, p2⟩ ⟨q1, q2⟩ = decide (p1 < q1) from by unfold beforeB; simp [h])
    have h' : ¬ (p1 : Int) = (q1 : Int) := by omega
    clear h
    go_enter Try.func79, Try.ntmps79
    go_wp2_with fail
    go_ret
    exact ⟨ret_bool (by rw [H.out]; try simp), ((Fr.refl _ _).alloc _).alloc _⟩
end Go.Proofs.Ytgjabgneapdbiaa
