/- cmp.Compare, cmp.Or, rib.order, rib.Better, the document's before and Better. -/
import Derived.Test.YtdmghildjadjeaaNorm
namespace Go.Proofs.Ytdmghildjadjeaa
open Go.RowKit Go.BigFrame
set_option linter.unusedSimpArgs false
set_option linter.unusedVariables false
attribute [local irreducible] wpMix wpAnyG

def cmpI (x y : Int) : Int := if x < y then -1 else if y < x then 1 else 0
def orL : List Int → Int
  | [] => 0
  | x :: xs => if x = 0 then orL xs else x

theorem nan_int (x : Int) (w : World) : Calls Try.prog 41 #[.int .i64 x] w fun e w' => e = .returned (.bool false) ∧ w' = w := by
  go_enter Try.func41, Try.ntmps41
  go_wp2_with fail
  go_ret
  exact ⟨by simp, rfl⟩
theorem nan_u32 (x : Int) (w : World) : Calls Try.prog 42 #[.int .u32 x] w fun e w' => e = .returned (.bool false) ∧ w' = w := by
  go_enter Try.func42, Try.ntmps42
  go_wp2_with fail
  go_ret
  exact ⟨by simp, rfl⟩

theorem cmp_int (x y : Int) (w : World) : Calls Try.prog 29 #[.int .i64 x, .int .i64 y] w fun e w' => e = .returned (.int .i64 (cmpI x y)) ∧ w' = w := by
  by_cases h1 : x < y
  · have H := hide (show cmpI x y = -1 from by unfold cmpI; rw [if_pos h1])
    go_enter Try.func29, Try.ntmps29
    go_wp2_with fail
    refine (nan_int x _).mono ?_
    rintro e w' ⟨rfl, rfl⟩
    go_wp2_with fail
    refine (nan_int y _).mono ?_
    rintro e w' ⟨rfl, rfl⟩
    go_wp2_with fail
    go_ret
    exact ⟨ret_int H.out.symm, rfl⟩
  · by_cases h2 : y < x
    · have H := hide (show cmpI x y = 1 from by unfold cmpI; rw [if_neg h1, if_pos h2])
      go_enter Try.func29, Try.ntmps29
      go_wp2_with fail
      refine (nan_int x _).mono ?_
      rintro e w' ⟨rfl, rfl⟩
      go_wp2_with fail
      refine (nan_int y _).mono ?_
      rintro e w' ⟨rfl, rfl⟩
      go_wp2_with fail
      go_ret
      exact ⟨ret_int H.out.symm, rfl⟩
    · have H := hide (show cmpI x y = 0 from by unfold cmpI; rw [if_neg h1, if_neg h2])
      go_enter Try.func29, Try.ntmps29
      go_wp2_with fail
      refine (nan_int x _).mono ?_
      rintro e w' ⟨rfl, rfl⟩
      go_wp2_with fail
      refine (nan_int y _).mono ?_
      rintro e w' ⟨rfl, rfl⟩
      go_wp2_with fail
      go_ret
      exact ⟨ret_int H.out.symm, rfl⟩
theorem cmp_u32 (x y : Int) (w : World) : Calls Try.prog 30 #[.int .u32 x, .int .u32 y] w fun e w' => e = .returned (.int .i64 (cmpI x y)) ∧ w' = w := by
  by_cases h1 : x < y
  · have H := hide (show cmpI x y = -1 from by unfold cmpI; rw [if_pos h1])
    go_enter Try.func30, Try.ntmps30
    go_wp2_with fail
    refine (nan_u32 x _).mono ?_
    rintro e w' ⟨rfl, rfl⟩
    go_wp2_with fail
    refine (nan_u32 y _).mono ?_
    rintro e w' ⟨rfl, rfl⟩
    go_wp2_with fail
    go_ret
    exact ⟨ret_int H.out.symm, rfl⟩
  · by_cases h2 : y < x
    · have H := hide (show cmpI x y = 1 from by unfold cmpI; rw [if_neg h1, if_pos h2])
      go_enter Try.func30, Try.ntmps30
      go_wp2_with fail
      refine (nan_u32 x _).mono ?_
      rintro e w' ⟨rfl, rfl⟩
      go_wp2_with fail
      refine (nan_u32 y _).mono ?_
      rintro e w' ⟨rfl, rfl⟩
      go_wp2_with fail
      go_ret
      exact ⟨ret_int H.out.symm, rfl⟩
    · have H := hide (show cmpI x y = 0 from by unfold cmpI; rw [if_neg h1, if_neg h2])
      go_enter Try.func30, Try.ntmps30
      go_wp2_with fail
      refine (nan_u32 x _).mono ?_
      rintro e w' ⟨rfl, rfl⟩
      go_wp2_with fail
      refine (nan_u32 y _).mono ?_
      rintro e w' ⟨rfl, rfl⟩
      go_wp2_with fail
      go_ret
      exact ⟨ret_int H.out.symm, rfl⟩

theorem orL_drop (cs : List Int) (k : Nat) (h : ∀ j, j < k → cs[j]? = some 0) : orL cs = orL (cs.drop k) := by
  induction k generalizing cs with
  | zero => rfl
  | succ k ih =>
    cases cs with
    | nil => rfl
    | cons x xs =>
      have h0 := h 0 (by omega)
      simp only [List.getElem?_cons_zero, Option.some.injEq] at h0
      subst h0
      rw [List.drop_succ_cons, ← ih xs (fun j hj => by have := h (j + 1) (by omega); simpa using this)]
      simp [orL]

def OrAt (cs : List Int) (w : World) (v : Value) (w' : World) : Prop := ∃ k : Nat, k ≤ cs.length ∧ v = .int .i64 k ∧ (∀ j, j < k → cs[j]? = some 0) ∧ w' = w
theorem cmp_or (w : World) (g : Nat) (cs : List Int) (hb : Blk w g (cs.map (Value.int .i64)).toArray 3) (hl : cs.length ≤ 64) :
    Calls Try.prog 28 #[.slice (some ⟨g, 0, none⟩) cs.length cs.length] w fun e w' => e = .returned (.int .i64 (orL cs)) ∧ w' = w := by
  obtain ⟨n, hn⟩ : ∃ n, n = cs.length := ⟨_, rfl⟩
  have Hn := hide hn
  rw [← hn] at hl ⊢
  clear hn
  go_enter Try.func28, Try.ntmps28
  go_wp2_with fail
  go_loopw [8] (OrAt cs w) (fun i _ => n - (intOf i).toNat)
  case atStart => exact ⟨0, Nat.zero_le _, rfl, fun j hj => by omega, rfl⟩
  case round =>
    obtain ⟨k, hk, rfl, h0, rfl⟩ := hrel
    have H0 := hide h0
    clear h0
    by_cases hlt : k < n
    · have hk2 : k < cs.length := by have := Hn.out; omega
      have hx : cs[k]? = some cs[k] := List.getElem?_eq_getElem hk2
      generalize cs[k] = x at hx
      have Hx := hide hx
      have c0 : wr.cell? ⟨g, k, none⟩ = some (.int .i64 x) := by rw [hb.cell]; simp [hx]
      clear hx
      by_cases hz : x = 0
      · subst hz
        go_wp2_with fail
        go_roundw
        case rel =>
          refine ⟨k + 1, by omega, by go_num, fun j hj => ?_, rfl⟩
          by_cases e : j < k
          · exact H0.out j e
          · obtain rfl : j = k := by omega
            exact Hx.out
        case measure => simp [intOf]; omega
      · go_wp2_with fail
        go_ret
        have hr : orL cs = x := by
          rw [orL_drop cs k H0.out, List.drop_eq_getElem_cons hk2]
          have : cs[k] = x := by have := Hx.out; rw [List.getElem?_eq_getElem hk2] at this; exact Option.some.inj this
          rw [this, orL, if_neg hz]
        exact ⟨ret_int hr.symm, rfl⟩
    · have hk' : k = n := by have := Hn.out; omega
      go_wp2_with fail
      go_ret
      have hr : orL cs = 0 := by rw [orL_drop cs k H0.out, List.drop_of_length_le (by have := Hn.out; omega)]; rfl
      exact ⟨ret_int hr.symm, rfl⟩

def betterI (a b : RouteM) : Int := orL [cmpI a.metric b.metric, cmpI a.iface b.iface, cmpI a.gate b.gate]
def betterB (a b : RouteM) : Bool := decide (betterI a b < 0)
def ordI (a b : RouteM) : Int := orL [cmpI a.table b.table, cmpI a.pfx.addr b.pfx.addr, cmpI a.pfx.len b.pfx.len, cmpI a.iface b.iface, cmpI a.gate b.gate]

theorem route_grow {w1 : World} {g o : Nat} {r : RouteM} (h : CellsAt w1 g o r.cells) : (∀ z : Grow w1, z.v.cell? ⟨g, o, none⟩ = some (.int .i64 r.table)) ∧ (∀ z : Grow w1, z.v.cell? ⟨g, o + 1, none⟩ = some (.int .u32 (r.pfx.addr : Nat))) ∧ (∀ z : Grow w1, z.v.cell? ⟨g, o + 2, none⟩ = some (.int .i64 r.pfx.len)) ∧
    (∀ z : Grow w1, z.v.cell? ⟨g, o + 3, none⟩ = some (.int .i64 r.iface)) ∧ (∀ z : Grow w1, z.v.cell? ⟨g, o + 4, none⟩ = some (.int .u32 (r.gate : Nat))) ∧ (∀ z : Grow w1, z.v.cell? ⟨g, o + 5, none⟩ = some (.int .i64 r.metric)) := by
  have H := fun z : Grow w1 => h.fr z.fr (fun h => h)
  exact ⟨fun z => H z 0 _ rfl, fun z => H z 1 _ rfl, fun z => H z 2 _ rfl, fun z => H z 3 _ rfl, fun z => H z 4 _ rfl, fun z => H z 5 _ rfl⟩
theorem route_now {w : World} {g o : Nat} {r : RouteM} (h : CellsAt w g o r.cells) : w.cell? ⟨g, o, none⟩ = some (.int .i64 r.table) ∧ w.cell? ⟨g, o + 1, none⟩ = some (.int .u32 (r.pfx.addr : Nat)) ∧ w.cell? ⟨g, o + 2, none⟩ = some (.int .i64 r.pfx.len) ∧
    w.cell? ⟨g, o + 3, none⟩ = some (.int .i64 r.iface) ∧ w.cell? ⟨g, o + 4, none⟩ = some (.int .u32 (r.gate : Nat)) ∧ w.cell? ⟨g, o + 5, none⟩ = some (.int .i64 r.metric) :=
  ⟨h 0 _ rfl, h 1 _ rfl, h 2 _ rfl, h 3 _ rfl, h 4 _ rfl, h 5 _ rfl⟩

set_option maxHeartbeats 1000000 in
theorem rib_better (a b : RouteM) (w : World) : Calls Try.prog 11 #[.agg a.cells.toArray, .agg b.cells.toArray] w fun e w' => e = .returned (.bool (betterB a b)) ∧ Fr noB w w' := by
  go_enter Try.func11, Try.ntmps11
  go_upto_region 1 with (fail)
  refine wp_gen (fun W => CellsAt W w.heap.size 0 a.cells ∧ CellsAt W (w.heap.size + 1) 0 b.cells ∧ Fr noB w W) ⟨by (repeat (first | assumption | exact cells_new _ _ _ (by simp) | refine CellsAt.alloc ?_ _ | refine CellsAt.drew ?_ | refine CellsAt.drewN ?_ _)), by (repeat (first | assumption | exact cells_new _ _ _ (by simp) | refine CellsAt.alloc ?_ _ | refine CellsAt.drew ?_ | refine CellsAt.drewN ?_ _)), ((Fr.refl _ _).alloc _).alloc _⟩ ?_
  rintro w1 ⟨ha, hb, hf⟩
  have Hf := hide hf
  clear hf
  obtain ⟨_, _, _, a3, a4, a5⟩ := route_grow ha
  obtain ⟨_, _, _, b3, b4, b5⟩ := route_grow hb
  simp only [Nat.zero_add] at a3 a4 a5 b3 b4 b5
  clear ha hb
  refine wp_region_mix (fun W => ∃ z : Grow w1, W = z.v) (by kernel_rfl) (by kernel_rfl) (inGrow (Fr.refl _ _).drew) ?_
  iterate 4 (first | (refine wpMix_skip rfl ?_; simp only [Act.put, List.setIfInBounds_toArray, List.set_cons_succ, List.set_cons_zero]) | (refine wpMix_calm rfl rfl (fun K hK => ?_); go_big_quiet_op; refine hK _ ?_; clear hK K))
  refine wpMix_spine rfl rfl (fun K hK => ?_); go_wp2_with fail
  refine (cmp_int a.metric b.metric _).mono ?_
  rintro e w' ⟨rfl, rfl⟩
  refine hK _ _ rfl (inGrow (Fr.refl _ _).drew) ?_
  clear hK K
  iterate 4 (first | (refine wpMix_skip rfl ?_; simp only [Act.put, List.setIfInBounds_toArray, List.set_cons_succ, List.set_cons_zero]) | (refine wpMix_calm rfl rfl (fun K hK => ?_); go_big_quiet_op; refine hK _ ?_; clear hK K))
  refine wpMix_spine rfl rfl (fun K hK => ?_); go_wp2_with fail
  refine (cmp_int a.iface b.iface _).mono ?_
  rintro e w' ⟨rfl, rfl⟩
  refine hK _ _ rfl (inGrow (Fr.refl _ _).drew) ?_
  clear hK K
  iterate 4 (first | (refine wpMix_skip rfl ?_; simp only [Act.put, List.setIfInBounds_toArray, List.set_cons_succ, List.set_cons_zero]) | (refine wpMix_calm rfl rfl (fun K hK => ?_); go_big_quiet_op; refine hK _ ?_; clear hK K))
  refine wpMix_spine rfl rfl (fun K hK => ?_); go_wp2_with fail
  refine (cmp_u32 a.gate b.gate _).mono ?_
  rintro e w' ⟨rfl, rfl⟩
  refine hK _ _ rfl (inGrow (Fr.refl _ _).drew) ?_
  clear hK K
  refine wpMix_buildSlice rfl 70 3 _ rfl #[(0, .int .i64 (cmpI a.metric b.metric)), (1, .int .i64 (cmpI a.iface b.iface)), (2, .int .i64 (cmpI a.gate b.gate))] (by kernel_rfl) Try.underlying70 (.int .i64 0) 1 (by kernel_rfl) #[.int .i64 (cmpI a.metric b.metric), .int .i64 (cmpI a.iface b.iface), .int .i64 (cmpI a.gate b.gate)] (by decide) (by decide) (by kernel_rfl) (inGrow ((Fr.refl _ _).drew.alloc _)) ?_
  simp only [Act.put, List.setIfInBounds_toArray, List.set_cons_succ, List.set_cons_zero]
  refine wpMix_spine rfl rfl (fun K hK => ?_); go_wp2_with fail
  refine (cmp_or _ w1.drew.heap.size [cmpI a.metric b.metric, cmpI a.iface b.iface, cmpI a.gate b.gate] (Blk.alloc_new w1.drew _ _) (by simp)).mono ?_
  rintro e w' ⟨rfl, rfl⟩
  refine hK _ _ rfl (inGrow ((Fr.refl _ _).drew.alloc _)) ?_
  clear hK K
  repeat (first | (refine wpMix_skip rfl ?_; simp only [Act.put, List.setIfInBounds_toArray, List.set_cons_succ, List.set_cons_zero]) | (refine wpMix_calm rfl rfl (fun K hK => ?_); go_big_quiet_op; refine hK _ ?_; clear hK K))
  refine wpMix_nil ?_
  go_wp2_with fail
  go_ret
  exact ⟨ret_bool (decide_eq_decide.2 Iff.rfl), Hf.out.drew.alloc _⟩
set_option maxHeartbeats 1000000 in
theorem rib_order (a b : RouteM) (w : World) : Calls Try.prog 32 #[.agg a.cells.toArray, .agg b.cells.toArray] w fun e w' => e = .returned (.int .i64 (ordI a b)) ∧ Fr noB w w' := by
  go_enter Try.func32, Try.ntmps32
  go_upto_region 1 with (fail)
  refine wp_gen (fun W => CellsAt W w.heap.size 0 a.cells ∧ CellsAt W (w.heap.size + 1) 0 b.cells ∧ Fr noB w W) ⟨by (repeat (first | assumption | exact cells_new _ _ _ (by simp) | refine CellsAt.alloc ?_ _ | refine CellsAt.drew ?_ | refine CellsAt.drewN ?_ _)), by (repeat (first | assumption | exact cells_new _ _ _ (by simp) | refine CellsAt.alloc ?_ _ | refine CellsAt.drew ?_ | refine CellsAt.drewN ?_ _)), ((Fr.refl _ _).alloc _).alloc _⟩ ?_
  rintro w1 ⟨ha, hb, hf⟩
  have Hf := hide hf
  clear hf
  obtain ⟨a0, a1, a2, a3, a4, _⟩ := route_grow ha
  obtain ⟨b0, b1, b2, b3, b4, _⟩ := route_grow hb
  simp only [Nat.zero_add] at a1 a2 a3 a4 b1 b2 b3 b4
  clear ha hb
  refine wp_region_mix (fun W => ∃ z : Grow w1, W = z.v) (by kernel_rfl) (by kernel_rfl) (inGrow (Fr.refl _ _).drew) ?_
  iterate 4 (first | (refine wpMix_skip rfl ?_; simp only [Act.put, List.setIfInBounds_toArray, List.set_cons_succ, List.set_cons_zero]) | (refine wpMix_calm rfl rfl (fun K hK => ?_); go_big_quiet_op; refine hK _ ?_; clear hK K))
  refine wpMix_spine rfl rfl (fun K hK => ?_); go_wp2_with fail
  refine (cmp_int a.table b.table _).mono ?_
  rintro e w' ⟨rfl, rfl⟩
  refine hK _ _ rfl (inGrow (Fr.refl _ _).drew) ?_
  clear hK K
  iterate 6 (first | (refine wpMix_skip rfl ?_; simp only [Act.put, List.setIfInBounds_toArray, List.set_cons_succ, List.set_cons_zero]) | (refine wpMix_calm rfl rfl (fun K hK => ?_); go_big_quiet_op; refine hK _ ?_; clear hK K))
  refine wpMix_spine rfl rfl (fun K hK => ?_); go_wp2_with fail
  refine (cmp_u32 a.pfx.addr b.pfx.addr _).mono ?_
  rintro e w' ⟨rfl, rfl⟩
  refine hK _ _ rfl (inGrow (Fr.refl _ _).drew) ?_
  clear hK K
  iterate 6 (first | (refine wpMix_skip rfl ?_; simp only [Act.put, List.setIfInBounds_toArray, List.set_cons_succ, List.set_cons_zero]) | (refine wpMix_calm rfl rfl (fun K hK => ?_); go_big_quiet_op; refine hK _ ?_; clear hK K))
  refine wpMix_spine rfl rfl (fun K hK => ?_); go_wp2_with fail
  refine (cmp_int a.pfx.len b.pfx.len _).mono ?_
  rintro e w' ⟨rfl, rfl⟩
  refine hK _ _ rfl (inGrow (Fr.refl _ _).drew) ?_
  clear hK K
  iterate 4 (first | (refine wpMix_skip rfl ?_; simp only [Act.put, List.setIfInBounds_toArray, List.set_cons_succ, List.set_cons_zero]) | (refine wpMix_calm rfl rfl (fun K hK => ?_); go_big_quiet_op; refine hK _ ?_; clear hK K))
  refine wpMix_spine rfl rfl (fun K hK => ?_); go_wp2_with fail
  refine (cmp_int a.iface b.iface _).mono ?_
  rintro e w' ⟨rfl, rfl⟩
  refine hK _ _ rfl (inGrow (Fr.refl _ _).drew) ?_
  clear hK K
  iterate 4 (first | (refine wpMix_skip rfl ?_; simp only [Act.put, List.setIfInBounds_toArray, List.set_cons_succ, List.set_cons_zero]) | (refine wpMix_calm rfl rfl (fun K hK => ?_); go_big_quiet_op; refine hK _ ?_; clear hK K))
  refine wpMix_spine rfl rfl (fun K hK => ?_); go_wp2_with fail
  refine (cmp_u32 a.gate b.gate _).mono ?_
  rintro e w' ⟨rfl, rfl⟩
  refine hK _ _ rfl (inGrow (Fr.refl _ _).drew) ?_
  clear hK K
  refine wpMix_buildSlice rfl 70 5 _ rfl #[(0, .int .i64 (cmpI a.table b.table)), (1, .int .i64 (cmpI a.pfx.addr b.pfx.addr)), (2, .int .i64 (cmpI a.pfx.len b.pfx.len)), (3, .int .i64 (cmpI a.iface b.iface)), (4, .int .i64 (cmpI a.gate b.gate))] (by kernel_rfl) Try.underlying70 (.int .i64 0) 1 (by kernel_rfl) #[.int .i64 (cmpI a.table b.table), .int .i64 (cmpI a.pfx.addr b.pfx.addr), .int .i64 (cmpI a.pfx.len b.pfx.len), .int .i64 (cmpI a.iface b.iface), .int .i64 (cmpI a.gate b.gate)] (by decide) (by decide) (by kernel_rfl) (inGrow ((Fr.refl _ _).drew.alloc _)) ?_
  simp only [Act.put, List.setIfInBounds_toArray, List.set_cons_succ, List.set_cons_zero]
  refine wpMix_spine rfl rfl (fun K hK => ?_); go_wp2_with fail
  refine (cmp_or _ w1.drew.heap.size [cmpI a.table b.table, cmpI a.pfx.addr b.pfx.addr, cmpI a.pfx.len b.pfx.len, cmpI a.iface b.iface, cmpI a.gate b.gate] (Blk.alloc_new w1.drew _ _) (by simp)).mono ?_
  rintro e w' ⟨rfl, rfl⟩
  refine hK _ _ rfl (inGrow ((Fr.refl _ _).drew.alloc _)) ?_
  clear hK K
  repeat (first | (refine wpMix_skip rfl ?_; simp only [Act.put, List.setIfInBounds_toArray, List.set_cons_succ, List.set_cons_zero]) | (refine wpMix_calm rfl rfl (fun K hK => ?_); go_big_quiet_op; refine hK _ ?_; clear hK K))
  refine wpMix_nil ?_
  go_wp2_with fail
  go_ret
  exact ⟨rfl, Hf.out.drew.alloc _⟩

/-! ### The two orders as they stand -/
def ltR (a b : RouteM) : Prop := a.table < b.table ∨ (a.table = b.table ∧ (a.pfx.addr < b.pfx.addr ∨ (a.pfx.addr = b.pfx.addr ∧ (a.pfx.len < b.pfx.len ∨ (a.pfx.len = b.pfx.len ∧ (a.iface < b.iface ∨ (a.iface = b.iface ∧ a.gate < b.gate)))))))
def sameR (a b : RouteM) : Prop := a.table = b.table ∧ a.pfx.addr = b.pfx.addr ∧ a.pfx.len = b.pfx.len ∧ a.iface = b.iface ∧ a.gate = b.gate
def betR (a b : RouteM) : Prop := a.metric < b.metric ∨ (a.metric = b.metric ∧ (a.iface < b.iface ∨ (a.iface = b.iface ∧ a.gate < b.gate)))
instance (a b : RouteM) : Decidable (ltR a b) := by unfold ltR; infer_instance
instance (a b : RouteM) : Decidable (sameR a b) := by unfold sameR; infer_instance
instance (a b : RouteM) : Decidable (betR a b) := by unfold betR; infer_instance
theorem cmpI_lt {x y : Int} : cmpI x y < 0 ↔ x < y := by unfold cmpI; split <;> (try split) <;> omega
theorem cmpI_eq {x y : Int} : cmpI x y = 0 ↔ x = y := by unfold cmpI; split <;> (try split) <;> omega
theorem or_step {x y : Int} {l : List Int} {q : Prop} (h : orL l < 0 ↔ q) : orL (cmpI x y :: l) < 0 ↔ x < y ∨ (x = y ∧ q) := by
  unfold orL
  by_cases e : cmpI x y = 0
  · rw [if_pos e, h]
    have := cmpI_eq.1 e
    simp [this]
  · rw [if_neg e, cmpI_lt]
    have : ¬ x = y := fun h => e (cmpI_eq.2 h)
    simp [this]
theorem or_steq {x y : Int} {l : List Int} {q : Prop} (h : orL l = 0 ↔ q) : orL (cmpI x y :: l) = 0 ↔ (x = y ∧ q) := by
  rw [orL]
  by_cases e : cmpI x y = 0
  · rw [if_pos e, h]
    have := cmpI_eq.1 e
    simp [this]
  · rw [if_neg e]
    have : ¬ x = y := fun h => e (cmpI_eq.2 h)
    simp [this, e]
theorem or_nil_lt : orL [] < 0 ↔ False := by simp [orL]
theorem or_nil_eq : orL [] = 0 ↔ True := by simp [orL]
theorem ordI_lt (a b : RouteM) : ordI a b < 0 ↔ ltR a b := by
  have h := or_step (x := a.table) (y := b.table) (or_step (x := a.pfx.addr) (y := b.pfx.addr) (or_step (x := a.pfx.len) (y := b.pfx.len) (or_step (x := a.iface) (y := b.iface) (or_step (x := a.gate) (y := b.gate) or_nil_lt))))
  unfold ordI ltR
  rw [h]
  simp only [and_false, or_false, Int.ofNat_lt, Int.natCast_inj]
theorem ordI_eq (a b : RouteM) : ordI a b = 0 ↔ sameR a b := by
  have h := or_steq (x := a.table) (y := b.table) (or_steq (x := a.pfx.addr) (y := b.pfx.addr) (or_steq (x := a.pfx.len) (y := b.pfx.len) (or_steq (x := a.iface) (y := b.iface) (or_steq (x := a.gate) (y := b.gate) or_nil_eq))))
  unfold ordI sameR
  rw [h]
  simp only [and_true, Int.natCast_inj]
theorem betterI_lt (a b : RouteM) : betterI a b < 0 ↔ betR a b := by
  have h := or_step (x := a.metric) (y := b.metric) (or_step (x := a.iface) (y := b.iface) (or_step (x := a.gate) (y := b.gate) or_nil_lt))
  unfold betterI betR
  rw [h]
  simp only [and_false, or_false, Int.ofNat_lt, Int.natCast_inj]
theorem betterB_eq (a b : RouteM) : betterB a b = decide (betR a b) := decide_eq_decide.2 (betterI_lt a b)
theorem ltR_trans {a b c : RouteM} (h : ltR a b) (k : ltR b c) : ltR a c := by unfold ltR at *; omega
theorem ltR_irrefl (a : RouteM) : ¬ ltR a a := by unfold ltR; omega
theorem ltR_tri (a b : RouteM) : ltR a b ∨ sameR a b ∨ ltR b a := by unfold ltR sameR; omega
theorem ltR_same {a b c : RouteM} (h : sameR a b) : (ltR a c ↔ ltR b c) ∧ (ltR c a ↔ ltR c b) := by unfold sameR at h; unfold ltR; omega
theorem sameR_sym {a b : RouteM} (h : sameR a b) : sameR b a := by unfold sameR at *; omega
theorem not_ltR {a b : RouteM} : ¬ ltR a b ↔ sameR a b ∨ ltR b a := by unfold ltR sameR; omega
end Go.Proofs.Ytdmghildjadjeaa
