/- Dir's table, made once. -/
import Derived.Test.YtgjabgneapdbiaaDirOwnA
import Derived.Tactics
import Derived.Tactics2
import Derived.Defers
import Derived.Laws.Pointers
import Derived.Laws.LoneSync
import Derived.Laws.MakeOwn
import Derived.RegionTactic
import Derived.RegionCalls
import Derived.ChangeAlike
namespace Go.Proofs.Ytgjabgneapdbiaa
open Go.RowKit Go.BigFrame
set_option linter.unusedSimpArgs false
set_option linter.unusedVariables false
attribute [local irreducible] wpMix wpAnyG

/-! ### The table -/
theorem made_rep (n : Nat) : (madeCells zPl.cells.toArray (n * 3)).toList = (List.replicate n zPl).flatMap PlM.cells := by
  apply List.ext_getElem?
  intro j
  have hl := flat_length PlM.length (List.replicate n zPl)
  rw [List.length_replicate] at hl
  by_cases hj : j < n * 3
  · have hg := flat_get PlM.length [] (List.replicate n zPl) (j / 3) zPl (j % 3) (by rw [List.getElem?_replicate, if_pos (by omega)]) (by omega)
    rw [List.append_nil, show j / 3 * 3 + j % 3 = j by omega] at hg
    rw [hg]
    have h3 : j % 3 = 0 ∨ j % 3 = 1 ∨ j % 3 = 2 := by omega
    have hz : zPl.cells.toArray.size = 3 := rfl
    simp only [madeCells, Array.toList_map, Array.toList_range, List.getElem?_map, List.getElem?_range hj, Option.map_some, hz]
    rcases h3 with h | h | h <;> rw [h] <;> rfl
  · rw [List.getElem?_eq_none (by simp [size_madeCells]; omega), List.getElem?_eq_none (by rw [hl]; omega)]
theorem place_info : (Try.prog.info? 111).map (fun i => (i.zero, i.size, i.bytes)) = some (some (.agg zPl.cells.toArray), 3, 16) := by kernel_rfl
def tabN (n : Nat) : Obj := .cells ((List.replicate n zPl).flatMap PlM.cells).toArray 111
theorem make_tab (w : World) (n : Nat) (hn : n ≤ 1000000) : (Instr.makeSlice 102 (.int .i64 (n : Int)) (.int .i64 (n : Int))).run Try.prog w = .ok (.slice (some ⟨w.heap.size, 0, none⟩) n n) (w.alloc (tabN n)) := by
  obtain ⟨i, hi, hi2⟩ := Option.map_eq_some_iff.1 place_info
  simp only [Prod.mk.injEq] at hi2
  obtain ⟨hz, h3, hb⟩ := hi2
  have h := run_makeSlice (P := Try.prog) (w := w) 102 111 i _ Try.underlying102 hi hz .i64 .i64 (n : Int) (n : Int) (by omega) (Int.le_refl _) (by rw [h3]; omega) (by rw [hb]; omega) (by omega)
  rw [h]
  have e : madeCells (Value.agg zPl.cells.toArray).cells ((n : Int).toNat * i.size) = ((List.replicate n zPl).flatMap PlM.cells).toArray := by
    rw [h3, Int.toNat_natCast, ← made_rep n]
    rfl
  rw [e]
  rfl
theorem tab_own (w : World) (n : Nat) (hn : n ≤ 1000000) : OwnL (w.alloc (tabN n)) 111 3 PlM.cells ⟨some ⟨w.heap.size, 0, none⟩, n, n⟩ (List.replicate n zPl) :=
  ⟨by simp, .inr ⟨w.heap.size, [], rfl, by rw [List.append_nil]; exact Blk.alloc_new w _ _, by rw [List.append_nil, flat_length PlM.length, List.length_replicate], Nat.le_refl _, by simp [maxLen]; omega⟩⟩
theorem wpMix_make {ops : Array Oper} {S : World → Prop} {Q : Act → World → Prop} {o : Oper} {rest : List Oper} {a : Act} {w : World} (hw : Region.wanted o (yielded ops a.tmps) = true) (x y : Operand) (ho : o.op = .makeSlice 102 x y)
    (n : Nat) (hn : n ≤ 1000000) (hx : a.eval x = .int .i64 (n : Int)) (hy : a.eval y = .int .i64 (n : Int)) (hS : S (w.alloc (tabN n))) (h : wpMix Try.prog ops S Q rest (a.put o.dst (.slice (some ⟨w.heap.size, 0, none⟩) n n)) (w.alloc (tabN n))) : wpMix Try.prog ops S Q (o :: rest) a w := by
  refine wpMix_run hw (by rw [ho]; rfl) (w' := w.alloc (tabN n)) (v := .slice (some ⟨w.heap.size, 0, none⟩) n n) ?_ hS h
  unfold execOp
  simp only [ho, hx, hy]
  exact exec_v (make_tab w n hn)
attribute [local irreducible] tabN
/-- What Do is given: the table is made. -/
theorem dir_make (w : World) (c g : Nat) (v4 : Value) (hc : w.cell? ⟨c, 0, none⟩ = some (.pointer (some ⟨g, 0, none⟩))) (h4 : w.cell? ⟨g, 4, none⟩ = some v4) (z4 : w.frozen? ⟨g, 4, none⟩ = false) (hg : g < w.heap.size) (hcl : c < w.heap.size) :
    Calls Try.prog 63 #[.pointer (some ⟨c, 0, none⟩)] w fun e w' => e = .returned (.tuple #[]) ∧ w' = ((w.setCell ⟨g, 4, none⟩ (.slice (some ⟨w.heap.size, 0, none⟩) 65536 65536)).alloc (tabN 65536)).drew := by
  go_enter Try.func63, Try.ntmps63
  have c0 : ∀ z : Grow w, z.v.cell? ⟨c, 0, none⟩ = some (.pointer (some ⟨g, 0, none⟩)) := fun z => (z.fr.cell (block_of_cell hc) (fun h => h)).trans hc
  clear hc
  refine wp_region_mixT 4 (fun W => ∃ z : Grow w, W = z.v) (by kernel_rfl) (by kernel_rfl) (inGrow (Fr.refl _ _).drew) ?_
  simp only [List.take_succ_cons, List.take_zero, List.drop_succ_cons, List.drop_zero]
  iterate 1 (first | (refine wpMix_skip rfl ?_; simp only [Act.put, List.setIfInBounds_toArray, List.set_cons_succ, List.set_cons_zero]) | (refine wpMix_calm rfl rfl (fun K hK => ?_); go_big_quiet_op; refine hK _ ?_; clear hK K))
  refine wpMix_make rfl (.const (.int .i64 65536)) (.const (.int .i64 65536)) rfl 65536 (by decide) rfl rfl (inGrow ((Fr.refl _ _).drew.alloc _)) ?_
  simp only [Act.put, List.setIfInBounds_toArray, List.set_cons_succ, List.set_cons_zero]
  repeat (first | (refine wpMix_skip rfl ?_; simp only [Act.put, List.setIfInBounds_toArray, List.set_cons_succ, List.set_cons_zero]) | (refine wpMix_calm rfl rfl (fun K hK => ?_); go_big_quiet_op; refine hK _ ?_; clear hK K))
  refine wpMix_nil ?_
  clear c0
  go_wp2_with fail
  go_end0
  exact ⟨rfl, rfl⟩

/-! ### sync.Once, one goroutine -/
theorem o_disable (w : World) : (callFunc 98 #[]).run Try.prog w = .ok (.value (.tuple #[])) w := run_call_mark0 Try.func98 (by kernel_rfl) (by kernel_rfl) (by kernel_rfl) .disable (by kernel_rfl) w
theorem o_enable (w : World) : (callFunc 100 #[]).run Try.prog w = .ok (.value (.tuple #[])) w := run_call_mark0 Try.func100 (by kernel_rfl) (by kernel_rfl) (by kernel_rfl) .enable (by kernel_rfl) w
theorem o_acquire (a : Addr) (w : World) : (callFunc 101 #[.pointer (some a)]).run Try.prog w = .ok (.value (.tuple #[])) w := run_call_marked Try.func101 (by kernel_rfl) (by kernel_rfl) (by kernel_rfl) .acquire (by kernel_rfl) a w
theorem o_releaseMerge (a : Addr) (w : World) : (callFunc 103 #[.pointer (some a)]).run Try.prog w = .ok (.value (.tuple #[])) w := run_call_marked Try.func103 (by kernel_rfl) (by kernel_rfl) (by kernel_rfl) .releaseMerge (by kernel_rfl) a w
theorem o_load (a : Addr) (d : Int) (w : World) (h0 : w.cell? a = some (.int .u32 d)) : Calls Try.prog 81 #[.pointer (some a)] w fun e w' => e = .returned (.bool (d != 0)) ∧ w' = w := by
  have hl := run_call_load (P := Try.prog) Try.func89 (by kernel_rfl) (by kernel_rfl) (by kernel_rfl) .u32 (by kernel_rfl) h0
  go_enter Try.func81, Try.ntmps81
  go_wp2
  go_ret
  exact ⟨rfl, rfl⟩
set_option maxRecDepth 100000 in
set_option maxHeartbeats 1600000 in
theorem store_deferred (a : Addr) (x : Value) (u : FrameMode) (w : World) (hc : w.cell? a = some x) (hz : w.frozen? a = false) :
    CallsD Try.prog 92 #[.pointer (some a), .bool true] u w fun e u' w' => u' = u ∧ (e = .returned (.tuple #[]) ∧ w' = w.drew.setCell a (.int .u32 1)) := by
  have hc' : w.drew.cell? a = some x := by go_simp
  have hz' : w.drew.frozen? a = false := by go_simp
  have hst := run_call_store (P := Try.prog) Try.func96 (by kernel_rfl) (by kernel_rfl) (by kernel_rfl) (by kernel_rfl) (k := .u32) (y := 1) hc' hz'
  go_enter_d Try.func92, Try.ntmps92
  go_wp2
  go_region_calls
  all_goals (go_end0; exact ⟨rfl, rfl⟩)
set_option maxRecDepth 100000 in
set_option maxHeartbeats 1600000 in
theorem unlock_deferred (a : Addr) (u : FrameMode) (w : World) (hc : w.cell? a = some (.int .i32 1)) (hz : w.frozen? a = false) :
    CallsD Try.prog 91 #[.pointer (some a)] u w fun e u' w' => u' = u ∧ (e = .returned (.tuple #[]) ∧ w' = w.setCell a (.int .i32 0)) := by
  have hd := o_disable
  have he := o_enable
  have hr := o_releaseMerge
  have hadd := run_call_add (P := Try.prog) Try.func104 (by kernel_rfl) (by kernel_rfl) (by kernel_rfl) .i32 (by kernel_rfl) (y := -1) (s := 0) hc hz (by simp [go_sem]; rfl)
  have hcv := run_convert_to_unsafe (P := Try.prog) (src := 135) (dst := 139) Try.underlying135 Try.underlying139 (by kernel_rfl) hc
  go_enter_d Try.func91, Try.ntmps91
  go_wp2
  go_end0
  go_wp2
  go_end0
  exact ⟨rfl, rfl⟩
set_option maxRecDepth 100000 in
set_option maxHeartbeats 1600000 in
theorem lock_free (a : Addr) (w : World) (hc : w.cell? a = some (.int .i32 0)) (hz : w.frozen? a = false) :
    Calls Try.prog 90 #[.pointer (some a)] w fun e w' => e = .returned (.tuple #[]) ∧ w' = w.setCell a (.int .i32 1) := by
  have hd := o_disable
  have he := o_enable
  have ha := o_acquire
  have hcas := run_call_cas_hit (P := Try.prog) Try.func99 (by kernel_rfl) (by kernel_rfl) (by kernel_rfl) .i32 (by kernel_rfl) (y := 1) hc hz
  have hc' : (w.setCell a (.int .i32 1)).cell? a = some (.int .i32 1) := World.cell?_setCell_same w a _ hc
  have hcv := run_convert_to_unsafe (P := Try.prog) (src := 135) (dst := 139) Try.underlying135 Try.underlying139 (by kernel_rfl) hc'
  go_enter Try.func90, Try.ntmps90
  go_wp2
  first | go_end0 | (simp only [Exit.inBlock, Exit.then]; refine bodyPost_ret (results_none rfl _ _ _) rfl ?_) | refine bodyPost_ret (results_none rfl _ _ _) rfl ?_
  go_wp2
  go_end0
  exact ⟨rfl, rfl⟩

def nilS : SlV := ⟨none, 0, 0⟩
/-- The Dir and its table, made. -/
def MadeAt (w : World) (g gt gm : Nat) (most : Int) (e : Ending) (w' : World) : Prop :=
  e = .returned (.tuple #[]) ∧ ∃ gT, w.heap.size ≤ gT ∧ Blk w' g (dirC gt 1 ⟨some ⟨gT, 0, none⟩, 65536, 65536⟩ nilS nilS gm most).toArray 106 ∧ OwnL w' 111 3 PlM.cells ⟨some ⟨gT, 0, none⟩, 65536, 65536⟩ (List.replicate 65536 zPl) ∧ Fr (oneB g) w w'
set_option maxRecDepth 100000 in
set_option maxHeartbeats 1600000 in
theorem once_slow (w : World) (c g gt gm : Nat) (most : Int) (hb : Blk w g (dirC gt 0 nilS nilS nilS gm most).toArray 106) (hc : w.cell? ⟨c, 0, none⟩ = some (.pointer (some ⟨g, 0, none⟩))) (hg : g < w.heap.size) (hcl : c < w.heap.size) (hne : c ≠ g) :
    Calls Try.prog 82 #[.pointer (some ⟨g, 1, none⟩), .func (.func 63) #[] #[.pointer (some ⟨c, 0, none⟩)]] w (MadeAt w g gt gm most) := by
  have h1 : w.cell? ⟨g, 1, none⟩ = some (.int .u32 0) := hb.cell 1
  have h2 : w.cell? ⟨g, 2, none⟩ = some (.int .i32 0) := hb.cell 2
  have z2 : w.frozen? ⟨g, 2, none⟩ = false := hb.free 2
  have Hb := hide hb; have Hc := hide hc; have Hg := hide hg; have Hcl := hide hcl; have Hne := hide hne
  have hnot : ∀ (x : Bool) (w : World), (Op.unary .not (.bool x)).run Try.prog w = .ok (.bool (!x)) w := fun _ _ => rfl
  clear hb hc hg hcl hne
  go_enter_defers Try.func82, Try.ntmps82
  go_wp2_with fail
  refine (lock_free ⟨g, 2, none⟩ w h2 z2).mono ?_
  rintro e w1 ⟨rfl, rfl⟩
  clear h1 h2 z2
  have Hb1 := hide (Hb.out.set 2 (.int .i32 1))
  have hs1 : (w.setCell ⟨g, 2, none⟩ (.int .i32 1)).heap.size = w.heap.size := by simp
  have Hf1 := hide ((Fr.refl (oneB g) w).setCell (p := ⟨g, 2, none⟩) (.inr rfl) (.int .i32 1))
  generalize w.setCell ⟨g, 2, none⟩ (.int .i32 1) = w1 at *
  have Hs1 := hide hs1
  clear hs1
  go_wp2_with fail
  refine (o_load ⟨g, 1, none⟩ 0 w1 (Hb1.out.cell 1)).mono ?_
  rintro e w2 ⟨rfl, rfl⟩
  go_wp2_with fail
  refine (dir_make w2 c g (.slice none 0 0) ((Hf1.out.cell (block_of_cell Hc.out) (fun e => Hne.out (by unfold oneB at e; exact e))).trans Hc.out) (Hb1.out.cell 4) (Hb1.out.free 4) (by rw [Hs1.out]; exact Hg.out) (by rw [Hs1.out]; exact Hcl.out)).mono ?_
  rintro e w3 ⟨rfl, hw3⟩
  have Hb3 := hide (show Blk w3 g (((dirC gt 0 nilS nilS nilS gm most).toArray.setIfInBounds 2 (.int .i32 1)).setIfInBounds 4 (.slice (some ⟨w2.heap.size, 0, none⟩) 65536 65536)) 106 from by
    rw [hw3]; exact (Hb1.out.set 4 _).fr (((Fr.refl noB _).alloc _).drew) (fun h => h))
  have Ht3 := hide (show OwnL w3 111 3 PlM.cells ⟨some ⟨w2.heap.size, 0, none⟩, 65536, 65536⟩ (List.replicate 65536 zPl) from by
    rw [hw3]
    have := tab_own (w2.setCell ⟨g, 4, none⟩ (.slice (some ⟨w2.heap.size, 0, none⟩) 65536 65536)) 65536 (by decide)
    have e : (w2.setCell ⟨g, 4, none⟩ (.slice (some ⟨w2.heap.size, 0, none⟩) 65536 65536)).heap.size = w2.heap.size := by simp
    rw [e] at this
    exact this.fr (Fr.refl noB _).drew (fun _ _ h => h))
  have Hf3 := hide (show Fr (oneB g) w w3 from by
    rw [hw3]; exact (((Hf1.out).setCell (p := ⟨g, 4, none⟩) (.inr rfl) _).alloc _).drew)
  clear hw3
  go_wp2
  simp only [bodyPostD]
  refine leaves_cons (f := 92) (args := #[.pointer (some ⟨g, 1, none⟩), .bool true]) (by simp) (by simp [go_sem]) ?_
  refine (store_deferred ⟨g, 1, none⟩ (.int .u32 0) .returning _ (Hb3.out.cell 1) (Hb3.out.free 1)).mono ?_
  rintro e u' w4 ⟨rfl, rfl, hw4⟩
  have Hb4 := hide (show Blk w4 g ((((dirC gt 0 nilS nilS nilS gm most).toArray.setIfInBounds 2 (.int .i32 1)).setIfInBounds 4 (.slice (some ⟨w2.heap.size, 0, none⟩) 65536 65536)).setIfInBounds 1 (.int .u32 1)) 106 from by
    rw [hw4]; exact (Hb3.out.fr (Fr.refl noB _).drew (fun h => h)).set 1 _)
  have hf34 : Fr (oneB g) w3 w4 := by rw [hw4]; exact (Fr.refl (oneB g) w3).drew.setCell (p := ⟨g, 1, none⟩) (.inr rfl) _
  have Hf34 := hide hf34
  clear hw4 hf34
  refine leaves_cons (f := 91) (args := #[.pointer (some ⟨g, 2, none⟩)]) (by simp [settle]) (by simp [go_sem]) ?_
  refine (unlock_deferred ⟨g, 2, none⟩ _ w4 (Hb4.out.cell 2) (Hb4.out.free 2)).mono ?_
  rintro e u' w5 ⟨rfl, rfl, hw5⟩
  have Hb5 := hide (show Blk w5 g (((((dirC gt 0 nilS nilS nilS gm most).toArray.setIfInBounds 2 (.int .i32 1)).setIfInBounds 4 (.slice (some ⟨w2.heap.size, 0, none⟩) 65536 65536)).setIfInBounds 1 (.int .u32 1)).setIfInBounds 2 (.int .i32 0)) 106 from by
    rw [hw5]; exact Hb4.out.set 2 _)
  have hf45 : Fr (oneB g) w4 w5 := by rw [hw5]; exact (Fr.refl (oneB g) w4).setCell (p := ⟨g, 2, none⟩) (.inr rfl) _
  have Hf35 := hide (Hf34.out.tr hf45)
  clear hw5 hf45
  simp [Leaves, settle, results, Try.results82]
  refine ⟨rfl, w2.heap.size, by rw [Hs1.out]; exact Nat.le_refl _, Hb5.out, ?_, Hf3.out.tr Hf35.out⟩
  refine Ht3.out.fr Hf35.out (fun b hb e => ?_)
  unfold oneB at e
  obtain ⟨a, ha, rfl⟩ := hb
  simp only [Option.some.injEq] at ha
  subst ha
  simp only at e
  have := Hs1.out
  have := Hg.out
  omega
/-- The first Do. -/
theorem once_first (w : World) (c g gt gm : Nat) (most : Int) (hb : Blk w g (dirC gt 0 nilS nilS nilS gm most).toArray 106) (hc : w.cell? ⟨c, 0, none⟩ = some (.pointer (some ⟨g, 0, none⟩))) (hg : g < w.heap.size) (hcl : c < w.heap.size) (hne : c ≠ g) :
    Calls Try.prog 62 #[.pointer (some ⟨g, 1, none⟩), .func (.func 63) #[] #[.pointer (some ⟨c, 0, none⟩)]] w (MadeAt w g gt gm most) := by
  have hnot : ∀ (x : Bool) (w : World), (Op.unary .not (.bool x)).run Try.prog w = .ok (.bool (!x)) w := fun _ _ => rfl
  have hld := o_load ⟨g, 1, none⟩ 0 w (hb.cell 1)
  have hslow := once_slow w c g gt gm most hb hc hg hcl hne
  clear hb hc hg hcl hne
  go_enter Try.func62, Try.ntmps62
  go_wp2_with fail
  refine hld.mono ?_
  rintro e w2 ⟨rfl, rfl⟩
  go_wp2_with fail
  refine hslow.mono ?_
  rintro e w3 ⟨rfl, hw3⟩
  go_wp2_with fail
  go_end0
  exact ⟨rfl, hw3⟩
/-- .. and any later one. -/
theorem once_again (w : World) (g : Nat) (d : Int) (hd : ¬ d = 0) (fv : Value) (h1 : w.cell? ⟨g, 1, none⟩ = some (.int .u32 d)) :
    Calls Try.prog 62 #[.pointer (some ⟨g, 1, none⟩), fv] w fun e w' => e = .returned (.tuple #[]) ∧ w' = w := by
  have hnot : ∀ (x : Bool) (w : World), (Op.unary .not (.bool x)).run Try.prog w = .ok (.bool (!x)) w := fun _ _ => rfl
  have hd' : (d != 0) = true := by simp [hd]
  have hld := o_load ⟨g, 1, none⟩ d w h1
  rw [hd'] at hld
  clear h1 hd hd'
  go_enter Try.func62, Try.ntmps62
  go_wp2_with fail
  refine hld.mono ?_
  rintro e w2 ⟨rfl, rfl⟩
  go_wp2_with fail
  go_end0
  exact ⟨rfl, rfl⟩
end Go.Proofs.Ytgjabgneapdbiaa
