/- What the functions of package limit do, one contract each. -/
import Derived.Test.YtielgdmmegcafaaLib
namespace Go.Proofs.Ytielgdmmegcafaa
open Go.RowKit

set_option maxHeartbeats 400000 in
theorem load64 (g o : Nat) (n : Int) (w : World) (hc : w.cell? ⟨g, o, none⟩ = some (.int .i64 n)) :
    Calls Try.prog 12 #[.pointer (some ⟨g, o, none⟩)] w fun e w' => e = .returned (.int .i64 n) ∧ w = w' := by
  have hl := run_call_load (P := Try.prog) Try.func15 (by kernel_rfl) (by kernel_rfl) (by kernel_rfl) .i64 (by kernel_rfl) hc
  go_enter Try.func12, Try.ntmps12
  go_wp2
  go_ret
  exact ⟨rfl, rfl⟩

set_option maxHeartbeats 400000 in
theorem store64 (g o : Nat) (n : Int) (u : Value) (w : World) (hc : w.cell? ⟨g, o, none⟩ = some u) (hz : w.frozen? ⟨g, o, none⟩ = false) :
    Calls Try.prog 11 #[.pointer (some ⟨g, o, none⟩), .int .i64 n] w fun e w' => e = .returned (.tuple #[]) ∧ w' = w.setCell ⟨g, o, none⟩ (.int .i64 n) := by
  have hl := run_call_store (P := Try.prog) Try.func14 (by kernel_rfl) (by kernel_rfl) (by kernel_rfl) (by kernel_rfl) (k := .i64) (y := n) hc hz
  go_enter Try.func11, Try.ntmps11
  go_wp2
  go_end0
  exact ⟨rfl, rfl⟩

set_option maxHeartbeats 400000 in
theorem cas64 (g o : Nat) (n m : Int) (w : World) (hc : w.cell? ⟨g, o, none⟩ = some (.int .i64 n)) (hz : w.frozen? ⟨g, o, none⟩ = false) :
    Calls Try.prog 13 #[.pointer (some ⟨g, o, none⟩), .int .i64 n, .int .i64 m] w fun e w' => e = .returned (.bool true) ∧ w' = w.setCell ⟨g, o, none⟩ (.int .i64 m) := by
  have hl := run_call_cas_hit (P := Try.prog) Try.func16 (by kernel_rfl) (by kernel_rfl) (by kernel_rfl) .i64 (by kernel_rfl) (y := m) hc hz
  go_enter Try.func13, Try.ntmps13
  go_wp2
  go_ret
  exact ⟨rfl, rfl⟩

/-- A Limit: how many are left, and at most. -/
def IsLim (w : World) (g : Nat) (a m : Int) : Prop := Blk w g #[.int .i64 a, .int .i64 m] 35

theorem IsLim.fr {w w' : World} {g : Nat} {a m : Int} (h : IsLim w g a m) {S : Nat → Prop} (f : Fr S w w') (hs : ¬ S g) : IsLim w' g a m := Blk.fr h f hs
theorem IsLim.c0 {w : World} {g : Nat} {a m : Int} (h : IsLim w g a m) : w.cell? ⟨g, 0, none⟩ = some (.int .i64 a) := Blk.cell h 0
theorem IsLim.c1 {w : World} {g : Nat} {a m : Int} (h : IsLim w g a m) : w.cell? ⟨g, 1, none⟩ = some (.int .i64 m) := Blk.cell h 1
theorem IsLim.f0 {w : World} {g : Nat} {a m : Int} (h : IsLim w g a m) : w.frozen? ⟨g, 0, none⟩ = false := Blk.free h 0
theorem IsLim.set {w : World} {g : Nat} {a m : Int} (h : IsLim w g a m) (b : Int) : IsLim (w.setCell ⟨g, 0, none⟩ (.int .i64 b)) g b m := Blk.set h 0 _

set_option maxHeartbeats 400000 in
theorem lim_new (n : Int) (w : World) :
    Calls Try.prog 6 #[.int .i64 n] w fun e w' => e = .returned (.pointer (some ⟨w.heap.size, 0, none⟩)) ∧ IsLim w' w.heap.size (max n 0) (max n 0) ∧ Fr noB w w' ∧ w.heap.size < w'.heap.size := by
  have fin : ∀ x : Int, IsLim (w.alloc (.cells #[.int .i64 x, .int .i64 x] 35)).drew w.heap.size x x ∧ Fr noB w (w.alloc (.cells #[.int .i64 x, .int .i64 x] 35)).drew ∧ w.heap.size < (w.alloc (.cells #[.int .i64 x, .int .i64 x] 35)).drew.heap.size :=
    fun x => ⟨Blk.drew (Blk.alloc_new _ _ _), ((Fr.refl noB w).alloc _).drew, by simp⟩
  have Fin := hide fin
  clear fin
  go_enter Try.func6, Try.ntmps6
  go_wp2_with fail
  all_goals
    refine region_tail 7 (by kernel_rfl) (by kernel_rfl) ?_
    simp only [List.take_succ_cons, List.take_zero, List.drop_succ_cons, List.drop_zero]
    repeat still_step
    refine wpStill_nil ?_
    go_wp2_with fail
    refine (store64 _ _ _ (.int .i64 0) _ ?_ ?_).mono ?_
    · simp
    · simp
    rintro e w' ⟨rfl, rfl⟩
    go_wp2
    go_ret
    refine ⟨rfl, ?_⟩
  · have e : max n 0 = 0 := by omega
    rw [e]; exact Fin.out 0
  · have e : max n 0 = n := by omega
    rw [e]; exact Fin.out n

set_option maxHeartbeats 400000 in
theorem lim_tick (w : World) (g : Nat) (a m : Int) (hl : IsLim w g a m) :
    Calls Try.prog 7 #[.pointer (some ⟨g, 0, none⟩)] w fun e w' => e = .returned (.tuple #[]) ∧ IsLim w' g m m ∧ Fr (oneB g) w w' := by
  have fin : IsLim (w.setCell ⟨g, 0, none⟩ (.int .i64 m)).drew g m m ∧ Fr (oneB g) w (w.setCell ⟨g, 0, none⟩ (.int .i64 m)).drew :=
    ⟨Blk.drew (hl.set m), ((Fr.refl _ w).setCell (.inr (show oneB g g from rfl)) _).drew⟩
  have Fin := hide fin
  have c0 := hl.c0; have c1 := hl.c1; have f0 := hl.f0
  clear fin hl
  go_enter Try.func7, Try.ntmps7
  go_wp2_with fail
  refine region_tail 7 (by kernel_rfl) (by kernel_rfl) ?_
  simp only [List.take_succ_cons, List.take_zero, List.drop_succ_cons, List.drop_zero]
  repeat still_step
  refine wpStill_nil ?_
  go_wp2_with fail
  refine (store64 _ _ _ (.int .i64 a) _ ?_ ?_).mono ?_
  · simpa using c0
  · simpa using f0
  rintro e w' ⟨rfl, rfl⟩
  go_wp2
  go_end0
  exact ⟨rfl, Fin.out⟩

set_option maxHeartbeats 400000 in
theorem lim_tick_nil (w : World) :
    Calls Try.prog 7 #[.pointer none] w fun e w' => e = .returned (.tuple #[]) ∧ w = w' := by
  go_enter Try.func7, Try.ntmps7
  go_wp2
  go_end0
  exact ⟨rfl, rfl⟩

set_option maxHeartbeats 400000 in
theorem lim_left (w : World) (g : Nat) (a m : Int) (hl : IsLim w g a m) :
    Calls Try.prog 9 #[.pointer (some ⟨g, 0, none⟩)] w fun e w' => e = .returned (.int .i64 a) ∧ w = w' := by
  have c0 := hl.c0
  clear hl
  go_enter Try.func9, Try.ntmps9
  go_wp2_with fail
  refine (load64 _ _ a _ c0).mono ?_
  rintro e w' ⟨rfl, rfl⟩
  go_wp2
  go_ret
  exact ⟨rfl, rfl⟩

set_option maxHeartbeats 400000 in
theorem lim_left_nil (w : World) :
    Calls Try.prog 9 #[.pointer none] w fun e w' => e = .returned (.int .i64 0) ∧ w = w' := by
  go_enter Try.func9, Try.ntmps9
  go_wp2
  go_ret
  exact ⟨rfl, rfl⟩

set_option maxHeartbeats 400000 in
theorem lim_take_nil (w : World) :
    Calls Try.prog 8 #[.pointer none] w fun e w' => e = .returned (.bool false) ∧ w = w' := by
  go_enter Try.func8, Try.ntmps8
  go_wp2
  go_ret
  exact ⟨rfl, rfl⟩

set_option maxHeartbeats 400000 in
theorem lim_take_none (w : World) (g : Nat) (m : Int) (hl : IsLim w g 0 m) :
    Calls Try.prog 8 #[.pointer (some ⟨g, 0, none⟩)] w fun e w' => e = .returned (.bool false) ∧ w = w' := by
  have c0 := hl.c0
  clear hl
  go_enter Try.func8, Try.ntmps8
  go_wp2_with fail
  refine wp_loop_rounds 1 ?_
  rw [rounds_succ]
  go_wp2_with fail
  refine (load64 _ _ 0 _ c0).mono ?_
  rintro e w' ⟨rfl, rfl⟩
  go_wp2
  go_ret
  exact ⟨rfl, rfl⟩

set_option maxHeartbeats 400000 in
theorem lim_take_some (w : World) (g : Nat) (a m : Int) (ha : 0 < a) (hm : a ≤ 1000) (hl : IsLim w g a m) :
    Calls Try.prog 8 #[.pointer (some ⟨g, 0, none⟩)] w fun e w' => e = .returned (.bool true) ∧ IsLim w' g (a - 1) m ∧ Fr (oneB g) w w' := by
  have fin : IsLim (w.setCell ⟨g, 0, none⟩ (.int .i64 (a - 1))) g (a - 1) m ∧ Fr (oneB g) w (w.setCell ⟨g, 0, none⟩ (.int .i64 (a - 1))) :=
    ⟨hl.set _, (Fr.refl _ w).setCell (.inr (show oneB g g from rfl)) _⟩
  have Fin := hide fin
  have c0 := hl.c0; have f0 := hl.f0
  have h0 : (a == 0) = false := by simp; omega
  clear hl fin
  go_enter Try.func8, Try.ntmps8
  go_wp2_with fail
  refine wp_loop_rounds 1 ?_
  rw [rounds_succ]
  go_wp2_with fail
  refine (load64 _ _ a _ c0).mono ?_
  rintro e w' ⟨rfl, rfl⟩
  go_wp2_with fail
  refine (cas64 _ _ a (a - 1) _ c0 f0).mono ?_
  rintro e w' ⟨rfl, rfl⟩
  go_wp2
  go_ret
  exact ⟨rfl, Fin.out⟩

end Go.Proofs.Ytielgdmmegcafaa
