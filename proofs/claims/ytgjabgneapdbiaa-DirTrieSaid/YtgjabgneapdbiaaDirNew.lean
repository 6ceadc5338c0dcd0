/- 'a, b := x, y' with structs, two new variables: they may be made in either order. 'x := T{p, append([]E{}, q...)}': the new variable may be made ahead of the row, beside it or behind it. -/
import Derived.Test.YtgjabgneapdbiaaBase
import Derived.Test.YtgjabgneapdbiaaTrieMem
namespace Go.Proofs.Ytgjabgneapdbiaa
open Go.RowKit
set_option linter.unusedSimpArgs false
set_option linter.unusedVariables false

theorem any_new2 {P : Program} {ops : Array Oper} {md : Region.Mode} {D : Act → World → Prop} {L : Array Bool → Act → World → Prop} {fuel : Nat} {listed : Array Bool} {a : Act} {w w0 : World}
    (i0 i1 k0 k1 : Nat) (d0 d1 x y : Tmp) (t : TypeId) {o0 o1 s0 s1 : Oper} (h0 : ops[i0]? = some o0) (h1 : ops[i1]? = some o1) (h2 : ops[k0]? = some s0) (h3 : ops[k1]? = some s1)
    (g0 : o0.guard = none) (g1 : o1.guard = none) (g2 : s0.guard = none) (g3 : s1.guard = none) (e0 : o0.dst = some d0) (e1 : o1.dst = some d1) (e2 : s0.dst = none) (e3 : s1.dst = none)
    (p0 : o0.op = .alloc t) (p1 : o1.op = .alloc t) (p2 : s0.op = .store t (.tmp d0) (.tmp x)) (p3 : s1.op = .store t (.tmp d1) (.tmp y))
    (r1 : Region.ready md ops listed = [i0, i1]) (r2 : Region.ready md ops (listed.setIfInBounds i0 true) = [i1]) (r3 : Region.ready md ops (listed.setIfInBounds i1 true) = [i0])
    (r4 : Region.ready md ops ((listed.setIfInBounds i0 true).setIfInBounds i1 true) = [k0]) (r5 : Region.ready md ops (((listed.setIfInBounds i0 true).setIfInBounds i1 true).setIfInBounds k0 true) = [k1])
    (hne : i0 ≠ i1 ∧ d0 ≠ d1 ∧ d0 ≠ x ∧ d1 ≠ x ∧ d0 ≠ y ∧ d1 ≠ y) (hd0 : d0 < a.tmps.size) (hd1 : d1 < a.tmps.size)
    (Z : Array Value) (xs ys : List Value) (hz : Z.size = xs.length) (hyl : ys.length = xs.length) (hinfo : (P.info? t).map (fun i => (i.zero, i.size)) = some (some (.agg Z), xs.length))
    (hxc : ∀ u ∈ xs, u.oneCell' = true) (hyc : ∀ u ∈ ys, u.oneCell' = true)
    (hx : a.eval (.tmp x) = .agg xs.toArray) (hy : a.eval (.tmp y) = .agg ys.toArray) (hw0 : Fr noB w0 w)
    (h : ∀ ga gb w', ga ≠ gb → w.heap.size ≤ ga → w.heap.size ≤ gb → CellsAt w' ga 0 xs → CellsAt w' gb 0 ys → Fr noB w w' →
      wpAnyG P md ops (fun W => ∃ z : Grow w0, W = z.v) D L fuel ((((listed.setIfInBounds i0 true).setIfInBounds i1 true).setIfInBounds k0 true).setIfInBounds k1 true) ((a.put (some d0) (.pointer (some ⟨ga, 0, none⟩))).put (some d1) (.pointer (some ⟨gb, 0, none⟩))) w') :
    wpAnyG P md ops (fun W => ∃ z : Grow w0, W = z.v) D L (fuel + 1 + 1 + 1 + 1) listed a w := by
  obtain ⟨n01, m01, mx0, mx1, my0, my1⟩ := hne
  have inG : ∀ {W : World}, Fr noB w0 W → ∃ z : Grow w0, W = z.v := fun h => ⟨⟨_, h⟩, rfl⟩
  have hi1 : (P.info? t).map (·.size) = some xs.length := by
    obtain ⟨i, hi, hi2⟩ := Option.map_eq_some_iff.1 hinfo
    simp only [Prod.mk.injEq] at hi2
    rw [hi]; simp [hi2.2]
  have al : ∀ (ρ : Operand → Value) (o : Oper) (W : World), o.op = .alloc t → (execOp ρ o).run P W = .ok (.value (.pointer (some ⟨W.heap.size, 0, none⟩))) (W.alloc (.cells Z t)) := fun ρ o W ho => by
    obtain ⟨i, hi, hi2⟩ := Option.map_eq_some_iff.1 hinfo
    simp only [Prod.mk.injEq] at hi2
    unfold execOp
    simp only [ho]
    refine exec_v ?_
    simp [Instr.alloc, Sem.run_bind, zeroValue, typeInfo, hi, hi2.1, newVar, newRow, Value.cells]
  have st : ∀ (b : Act) (o : Oper) (W : World) (g d z : Nat) (cs : List Value) (old : Array Value), o.op = .store t (.tmp d) (.tmp z) → b.eval (.tmp d) = .pointer (some ⟨g, 0, none⟩) → b.eval (.tmp z) = .agg cs.toArray → Blk W g old t → old.size = cs.length → cs.length = xs.length → (∀ u ∈ cs, u.oneCell' = true) →
      (execOp b.eval o).run P W = .ok .skip (W.setRow g cs.toArray) := fun b o W g d z cs old ho h1 h2 hb hl hc h1c => by
    have hr := run_store_blk (P := P) hb hl (by rw [hi1, hc]) h1c
    unfold execOp
    simp only [ho, h1, h2, Instr.storeAt, Instr.sureAddr, Sem.run_bind, Sem.run_pure, Result.andThen_ok, hr]
  have mst : ∀ {k : Nat} {o : Oper} {K : Act → World → Prop} {b : Act} {W W' : World}, ops[k]? = some o → o.guard = none → calmOp o.op = false → o.dst = none → (execOp b.eval o).run P W = .ok .skip W' → (∃ z : Grow w0, W' = z.v) → K b W' → mOp P ops (fun W => ∃ z : Grow w0, W = z.v) k K b W := fun {k o K b W W'} hk hg hc hd hr hS h => by
    unfold mOp mOper
    simp only [hk]
    rw [if_pos (by simp [Region.wanted, hg]), if_neg (by rw [hc]; exact Bool.false_ne_true)]
    unfold Oper.wp
    rw [hr]
    simp only [Oper.upon, hd]
    exact ⟨rfl, hS, h⟩
  have c0 : calmOp o0.op = false := by rw [p0]; rfl
  have c1 : calmOp o1.op = false := by rw [p1]; rfl
  have c2 : calmOp s0.op = false := by rw [p2]; rfl
  have c3 : calmOp s1.op = false := by rw [p3]; rfl
  -- both are made
  have fin : ∀ (ga gb : Nat) (W : World), ga ≠ gb → w.heap.size ≤ ga → w.heap.size ≤ gb → Blk W ga Z t → Blk W gb Z t → Fr noB w W →
      wpAnyG P md ops (fun W => ∃ z : Grow w0, W = z.v) D L (fuel + 1 + 1) ((listed.setIfInBounds i0 true).setIfInBounds i1 true) ((a.put (some d0) (.pointer (some ⟨ga, 0, none⟩))).put (some d1) (.pointer (some ⟨gb, 0, none⟩))) W := fun ga gb W hab ha hb ba bb hf => by
    have v0 : ((a.put (some d0) (.pointer (some ⟨ga, 0, none⟩))).put (some d1) (.pointer (some ⟨gb, 0, none⟩))).eval (.tmp d0) = .pointer (some ⟨ga, 0, none⟩) := by rw [eval_put_ne _ _ _ _ (fun h => m01 h.symm), eval_put_eq _ _ _ hd0]
    have v1 : ((a.put (some d0) (.pointer (some ⟨ga, 0, none⟩))).put (some d1) (.pointer (some ⟨gb, 0, none⟩))).eval (.tmp d1) = .pointer (some ⟨gb, 0, none⟩) := by rw [eval_put_eq _ _ _ (by rw [size_put]; exact hd1)]
    have vx : ((a.put (some d0) (.pointer (some ⟨ga, 0, none⟩))).put (some d1) (.pointer (some ⟨gb, 0, none⟩))).eval (.tmp x) = .agg xs.toArray := by rw [eval_put_ne _ _ _ _ mx1, eval_put_ne _ _ _ _ mx0, hx]
    have vy : ((a.put (some d0) (.pointer (some ⟨ga, 0, none⟩))).put (some d1) (.pointer (some ⟨gb, 0, none⟩))).eval (.tmp y) = .agg ys.toArray := by rw [eval_put_ne _ _ _ _ my1, eval_put_ne _ _ _ _ my0, hy]
    have f1 : Fr noB w (W.setRow ga xs.toArray) := hf.setRow (.inl ha) _
    have f2 : Fr noB w ((W.setRow ga xs.toArray).setRow gb ys.toArray) := f1.setRow (.inl hb) _
    have b2 : Blk (W.setRow ga xs.toArray) gb Z t := bb.fr ((Fr.refl (oneB ga) W).setRow (.inr rfl) _) (fun e => hab (by unfold oneB at e; exact e.symm))
    refine any_one k0 h2 r4 (mst h2 g2 c2 e2 (st _ s0 W ga d0 x xs Z p2 v0 vx ba (by rw [hz]) rfl hxc) (inG (hw0.tr f1)) ?_)
    refine any_one k1 h3 r5 (mst h3 g3 c3 e3 (st _ s1 _ gb d1 y ys Z p3 v1 vy b2 (by rw [hz, hyl]) hyl hyc) (inG (hw0.tr f2)) ?_)
    exact h ga gb _ hab ha hb (Blk.cells ((Blk.setRow (cs' := xs.toArray) ba).fr ((Fr.refl (oneB gb) _).setRow (.inr rfl) _) (fun e => hab (by unfold oneB at e; exact e)))) (Blk.cells (Blk.setRow (cs' := ys.toArray) b2)) f2
  have ln : ∀ W : World, (W.alloc (.cells Z t)).heap.size = W.heap.size + 1 := fun W => by simp
  refine any_two i0 i1 r1 (mOp_run h0 g0 c0 (al _ o0 w p0) (inG (hw0.alloc _)) ?_) (mOp_run h1 g1 c1 (al _ o1 w p1) (inG (hw0.alloc _)) ?_)
  · rw [e0]
    refine any_one i1 h1 r2 (mOp_run h1 g1 c1 (al _ o1 _ p1) (inG ((hw0.alloc _).alloc _)) ?_)
    rw [e1]
    exact fin w.heap.size _ _ (by rw [ln]; omega) (Nat.le_refl _) (by rw [ln]; omega) ((Blk.alloc_new w Z t).fr ((Fr.refl noB _).alloc _) (fun h => h)) (Blk.alloc_new _ Z t) (((Fr.refl noB w).alloc _).alloc _)
  · rw [e1]
    refine any_one i0 h0 r3 (mOp_run h0 g0 c0 (al _ o0 _ p0) (inG ((hw0.alloc _).alloc _)) ?_)
    rw [e0, put_swap _ _ _ (fun h => m01 h.symm), Array.setIfInBounds_comm _ _ (fun h => n01 h.symm)]
    exact fin _ w.heap.size _ (by rw [ln]; omega) (by rw [ln]; omega) (Nat.le_refl _) (Blk.alloc_new _ Z t) ((Blk.alloc_new w Z t).fr ((Fr.refl noB _).alloc _) (fun h => h)) (((Fr.refl noB w).alloc _).alloc _)

/-- One new variable with a struct: 'a := x'. -/
theorem any_new1 {P : Program} {ops : Array Oper} {md : Region.Mode} {D : Act → World → Prop} {L : Array Bool → Act → World → Prop} {fuel : Nat} {listed : Array Bool} {a : Act} {w w0 : World}
    (i0 k0 : Nat) (d0 x : Tmp) (t : TypeId) {o0 s0 : Oper} (h0 : ops[i0]? = some o0) (h2 : ops[k0]? = some s0)
    (g0 : o0.guard = none) (g2 : s0.guard = none) (e0 : o0.dst = some d0) (e2 : s0.dst = none)
    (p0 : o0.op = .alloc t) (p2 : s0.op = .store t (.tmp d0) (.tmp x))
    (r1 : Region.ready md ops listed = [i0]) (r2 : Region.ready md ops (listed.setIfInBounds i0 true) = [k0])
    (hne : d0 ≠ x) (hd0 : d0 < a.tmps.size)
    (Z : Array Value) (xs : List Value) (hz : Z.size = xs.length) (hinfo : (P.info? t).map (fun i => (i.zero, i.size)) = some (some (.agg Z), xs.length))
    (hxc : ∀ u ∈ xs, u.oneCell' = true) (hx : a.eval (.tmp x) = .agg xs.toArray) (hw0 : Fr noB w0 w)
    (h : ∀ w', CellsAt w' w.heap.size 0 xs → Fr noB w w' → w.heap.size < w'.heap.size →
      wpAnyG P md ops (fun W => ∃ z : Grow w0, W = z.v) D L fuel ((listed.setIfInBounds i0 true).setIfInBounds k0 true) (a.put (some d0) (.pointer (some ⟨w.heap.size, 0, none⟩))) w') :
    wpAnyG P md ops (fun W => ∃ z : Grow w0, W = z.v) D L (fuel + 1 + 1) listed a w := by
  have inG : ∀ {W : World}, Fr noB w0 W → ∃ z : Grow w0, W = z.v := fun h => ⟨⟨_, h⟩, rfl⟩
  have hi1 : (P.info? t).map (·.size) = some xs.length := by
    obtain ⟨i, hi, hi2⟩ := Option.map_eq_some_iff.1 hinfo
    simp only [Prod.mk.injEq] at hi2
    rw [hi]; simp [hi2.2]
  have al : (execOp a.eval o0).run P w = .ok (.value (.pointer (some ⟨w.heap.size, 0, none⟩))) (w.alloc (.cells Z t)) := by
    obtain ⟨i, hi, hi2⟩ := Option.map_eq_some_iff.1 hinfo
    simp only [Prod.mk.injEq] at hi2
    unfold execOp
    simp only [p0]
    refine exec_v ?_
    simp [Instr.alloc, Sem.run_bind, zeroValue, typeInfo, hi, hi2.1, newVar, newRow, Value.cells]
  refine any_one i0 h0 r1 (mOp_run h0 g0 (by rw [p0]; rfl) al (inG (hw0.alloc _)) ?_)
  rw [e0]
  have b2 := Blk.alloc_new w Z t
  have f1 : Fr noB w ((w.alloc (.cells Z t)).setRow w.heap.size xs.toArray) := ((Fr.refl noB w).alloc _).setRow (.inl (Nat.le_refl _)) _
  have hr := run_store_blk (P := P) b2 (by rw [hz]) hi1 hxc
  have v0 : (a.put (some d0) (.pointer (some ⟨w.heap.size, 0, none⟩))).eval (.tmp d0) = .pointer (some ⟨w.heap.size, 0, none⟩) := eval_put_eq _ _ _ hd0
  have vx : (a.put (some d0) (.pointer (some ⟨w.heap.size, 0, none⟩))).eval (.tmp x) = .agg xs.toArray := by rw [eval_put_ne _ _ _ _ hne, hx]
  refine any_one k0 h2 r2 ?_
  unfold Go.Proofs.Ytgjabgneapdbiaa.mOp mOper
  simp only [h2]
  rw [if_pos (by simp [Region.wanted, g2]), if_neg (by rw [p2]; exact Bool.false_ne_true)]
  unfold Oper.wp execOp
  simp only [p2, v0, vx, Instr.storeAt, Instr.sureAddr, Sem.run_bind, Sem.run_pure, Result.andThen_ok, hr, Oper.upon, e2]
  exact ⟨rfl, inG (hw0.tr f1), h _ (Blk.cells (Blk.setRow (cs' := xs.toArray) b2)) f1 (by rw [size_setRow]; simp)⟩

/-! ### A call that changes nothing may be taken first -/
section
variable {P : Program} {ops : Array Oper} {md : Region.Mode} {S : World → Prop} {D : Act → World → Prop} {L : Array Bool → Act → World → Prop}
/-- A call of a function that answers the same in every world of the class, and changes nothing. -/
def PureY (P : Program) (ops : Array Oper) (S : World → Prop) (o : Oper) (v : Value) (a : Act) : Prop :=
  Region.wanted o (yielded ops a.tmps) = true ∧ calmOp o.op = false ∧ ∃ (f : FuncId) (args : Array Value), (∀ w, (execOp a.eval o).run P w = .ok (.enter f args) w) ∧ ∀ w, S w → Calls P f args w fun e w' => e = .returned v ∧ w' = w
theorem PureY.mOp {i : Nat} {o : Oper} {v : Value} {a : Act} {w : World} (hi : ops[i]? = some o) (hS : S w) (hy : PureY P ops S o v a) {K : Act → World → Prop} (h : K (a.put o.dst v) w) : mOp P ops S i K a w := by
  obtain ⟨hw, hc, f, args, he, hcall⟩ := hy
  unfold Go.Proofs.Ytgjabgneapdbiaa.mOp
  simp only [hi, hw, if_true, mOper, hc, Bool.false_eq_true, if_false]
  unfold Oper.wp
  rw [he w, Oper.upon_enter]
  refine (hcall w hS).mono ?_
  rintro e w' ⟨rfl, rfl⟩
  exact ⟨by cases o.dst <;> rfl, hS, h⟩
theorem PureY.of_same {o : Oper} {v : Value} {a a' : Act} (hy : PureY P ops S o v a) (he : execOp a'.eval o = execOp a.eval o)
    (hw : Region.wanted o (yielded ops a'.tmps) = Region.wanted o (yielded ops a.tmps)) : PureY P ops S o v a' := by
  unfold PureY at *
  rw [he, hw]
  exact hy
theorem mOp_putP {j : Nat} {oi oj : Oper} {v : Value} (hj : ops[j]? = some oj) (hap : oi.apart ops oj = true) (hsi : ∀ cs b, oi.op ≠ .select cs b) (hsj : ∀ cs b, oj.op ≠ .select cs b)
    {K : Act → World → Prop} {a : Act} {w : World} (hy : PureY P ops S oi v a) (h : mOp P ops S j K (a.put oi.dst v) w) :
    mOp P ops S j (fun a' w' => PureY P ops S oi v a' ∧ K (a'.put oi.dst v) w') a w := by
  obtain ⟨h1, h2, h3⟩ := Oper.apart_spec hap
  have keep : ∀ (a : Act), PureY P ops S oi v a → ∀ u, PureY P ops S oi v (a.put oj.dst u) := fun a hy u =>
    hy.of_same (execOp_put oi hsi a oj.dst u h3) (wanted_put oi a oj.dst u h3)
  have hp : ∀ (b : Act) (y : Option Tmp) (u : Value), (b.put y u).defers = b.defers := fun b y u => by cases y <;> rfl
  unfold Go.Proofs.Ytgjabgneapdbiaa.mOp at *
  simp only [hj] at *
  rw [wanted_put oj a oi.dst v h1] at h
  split
  · rename_i hw
    simp only [hw, if_true] at h
    unfold mOper at *
    split
    · rename_i hc
      rw [if_pos hc] at h
      obtain ⟨u, hu, hn⟩ := h
      refine ⟨u, fun w hw' => ?_, keep a hy u, by rw [← Act.put_comm a v u h2]; exact hn⟩
      have := hu w hw'
      unfold Oper.quietAt at *
      rwa [execOp_put oj hsj a oi.dst v h1] at this
    · rename_i hc
      rw [if_neg hc] at h
      refine wp_put hsj h1 h2 (fun a' w' hh => by rw [hh.1, hp]) (fun u w' hh => ?_) h
      refine ⟨hp _ _ _, hh.2.1, keep a hy u, ?_⟩
      rw [← Act.put_comm a v u h2]
      exact hh.2.2
  · rename_i hw
    simp only [hw] at h
    exact ⟨keep a hy _, by rw [← Act.put_comm a v undef h2]; exact h⟩
theorem wpAnyG_firstP {C : Array Bool → Prop} (hC : StepC md ops C) (hL : LastL md ops C L) {i : Nat} {oi : Oper} {v : Value} (hi : ops[i]? = some oi) (hsel : ∀ (j : Nat) (o : Oper) cs b, ops[j]? = some o → o.op ≠ .select cs b) :
    ∀ (fuel : Nat) (listed : Array Bool) (a : Act) (w : World), S w → C listed →
      (∀ j oj, ops[j]? = some oj → j ≠ i → listed.getD j true = false → (∀ e ∈ oj.after, Region.binds md e = true → e.on ≠ i) → oi.apart ops oj = true) →
      i ∈ Region.ready md ops listed → PureY P ops S oi v a →
      wpAnyG P md ops S D L fuel (listed.setIfInBounds i true) (a.put oi.dst v) w → wpAnyG P md ops S D L (fuel + 1) listed a w := by
  intro fuel
  induction fuel with
  | zero =>
    intro listed a w hS hc _ hr hy H
    refine ⟨fun h => (by rw [h] at hr; cases hr), fun j hj => ?_⟩
    by_cases hji : j = i
    · subst hji; exact hy.mOp hi hS H
    · exact absurd (hL _ _ _ _ hc hr H j hj) hji
  | succ fuel ih =>
    intro listed a w hS hc hfree hr hy H
    refine ⟨fun h => (by rw [h] at hr; cases hr), fun j hj => ?_⟩
    by_cases hji : j = i
    · subst hji; exact hy.mOp hi hS H
    · have h1 := H.2 j (ready_mono hj hji)
      obtain ⟨hjun, oj, hoj, hall⟩ := mem_ready.1 hj
      have hnot : ∀ e ∈ oj.after, Region.binds md e = true → e.on ≠ i := fun e he hb heq => by
        have h1 := hall e he hb
        have h0 := (mem_ready.1 hr).1
        rw [heq] at h1
        rcases Nat.lt_or_ge i listed.size with h' | h'
        · simp [h'] at h0 h1; rw [h0] at h1; cases h1
        · simp [Array.getElem?_eq_none h'] at h1
      have h2 := mOp_putP hoj (hfree j oj hoj hji hjun hnot) (fun cs b => hsel i oi cs b hi) (fun cs b => hsel j oj cs b hoj) hy h1
      have hfree' : ∀ k ok, ops[k]? = some ok → k ≠ i → (listed.setIfInBounds j true).getD k true = false →
          (∀ e ∈ ok.after, Region.binds md e = true → e.on ≠ i) → oi.apart ops ok = true := fun k ok hk hki hun hno => by
        refine hfree k ok hk hki ?_ hno
        by_cases hjk : j = k
        · subst hjk; exact hjun
        · rw [getD_set_ne true hjk] at hun; exact hun
      refine mOp_mono hS (fun a' w' hS' h3 => ih (listed.setIfInBounds j true) a' w' hS' (hC _ _ hc hj) hfree' (ready_mono hr (Ne.symm hji)) h3.1 ?_) h2
      rw [Array.setIfInBounds_comm _ _ hji]
      exact h3.2
theorem any_pure {fuel : Nat} {listed : Array Bool} {a : Act} {w : World} (k : Nat) {o : Oper} (hL : LastL md ops (ClosedL md ops) L) (hk : ops[k]? = some o) (hs : Region.noSelect ops = true) (hcl : closedB md ops listed = true) (hf : Region.free md ops listed k = true) (hr : (Region.ready md ops listed).contains k = true) (hS : S w)
    (hg : o.guard = none) (f : FuncId) (xs : Array Operand) (ats : Array TypeId) (ho : o.op = .call { callee := .value (.func f), args := xs, argTypes := ats }) {fn : Func} (hfn : P.funcs[f]? = some fn) (hn : (fn.name == "runtime.NumGoroutine") = false) (hb : fn.body.isSome = true)
    (args : Array Value) (hargs : xs.map a.eval = args) (v : Value) (hcall : ∀ w, S w → Calls P f args w fun e w' => e = .returned v ∧ w' = w)
    (h : wpAnyG P md ops S D L fuel (listed.setIfInBounds k true) (a.put o.dst v) w) : wpAnyG P md ops S D L (fuel + 1) listed a w := by
  refine wpAnyG_firstP (fun _ _ h hj => h.set hj) hL hk (Region.noSelect_spec hs) fuel listed a w hS (closed_of hcl) (Region.free_spec hk hf) (by simpa using hr) ⟨by simp [Region.wanted, hg], by rw [ho]; rfl, f, args, fun w => ?_, hcall⟩ h
  obtain ⟨c, hc⟩ := Option.isSome_iff_exists.1 hb
  have hcf : (callFunc f args).run P w = .ok (.enter f args) w := by
    have h1 : fn.name ≠ "runtime.NumGoroutine" := by simpa using hn
    simp [callFunc, hfn, h1, hc]
  unfold execOp
  simp only [ho, resolve, hargs]
  have e : a.eval (.func f) = .func (.func f) #[] #[] := rfl
  rw [e]
  simp [Deferred.ofValue, invoke, hcf, Sem.run_bind]
end
end Go.Proofs.Ytgjabgneapdbiaa

namespace Go.Proofs.Ytgjabgneapdbiaa
open Go.RowKit
set_option linter.unusedSimpArgs false
set_option linter.unusedVariables false

theorem any_newapp {α : Type} {P : Program} {ops : Array Oper} {md : Region.Mode} {D : Act → World → Prop} {L : Array Bool → Act → World → Prop} {fuel : Nat} {listed : Array Bool} {a : Act} {w w0 : World} {e t T : TypeId} {N : Nat} {cells : α → List Value} {ok : α → Prop}
    (hL : LastL md ops (ClosedL md ops) L) (hns : Region.noSelect ops = true)
    (i0 i1 ib iA k : Nat) (d0 d1 db dA x px : Tmp) {o0 o1 ob oA os : Oper} (h0 : ops[i0]? = some o0) (h1 : ops[i1]? = some o1) (hb : ops[ib]? = some ob) (hA : ops[iA]? = some oA) (hk : ops[k]? = some os)
    (g0 : o0.guard = none) (g1 : o1.guard = none) (gb : ob.guard = none) (gA : oA.guard = none) (gs : os.guard = none) (e0 : o0.dst = some d0) (e1 : o1.dst = some d1) (eb : ob.dst = some db) (eA : oA.dst = some dA) (es : os.dst = none)
    (p0 : o0.op = .buildSlice t 0 #[]) (p1 : o1.op = .call { callee := .builtin .append, args := #[.tmp d0, .tmp x], argTypes := #[t, t] }) (pb : calmOp ob.op = true) (pA : oA.op = .alloc T) (ps : os.op = .store T (.tmp dA) (.tmp db))
    (pv : Value) (hpv : a.eval (.tmp px) = pv)
    (run : ∀ (b : Act) (W : World) (v : SlV), b.eval (.tmp px) = pv → b.eval (.tmp d1) = .slice v.a v.len v.cap → (execOp b.eval ob).run P W = .ok (.value (.agg #[pv, .slice v.a v.len v.cap])) W)
    (r1 : Region.ready md ops listed = [i0, iA]) (r2 : Region.ready md ops (listed.setIfInBounds i0 true) = [i1, iA]) (r3 : Region.ready md ops ((listed.setIfInBounds i0 true).setIfInBounds iA true) = [i1]) (r4 : Region.ready md ops (listed.setIfInBounds iA true) = [i0])
    (r5 : Region.ready md ops (((listed.setIfInBounds i0 true).setIfInBounds i1 true).setIfInBounds ib true) = [iA]) (r6 : Region.ready md ops ((((listed.setIfInBounds i0 true).setIfInBounds i1 true).setIfInBounds ib true).setIfInBounds iA true) = [k])
    (cl1 : closedB md ops ((listed.setIfInBounds i0 true).setIfInBounds i1 true) = true) (fr1 : Region.free md ops ((listed.setIfInBounds i0 true).setIfInBounds i1 true) ib = true) (rd1 : (Region.ready md ops ((listed.setIfInBounds i0 true).setIfInBounds i1 true)).contains ib = true)
    (cl2 : closedB md ops (((listed.setIfInBounds i0 true).setIfInBounds i1 true).setIfInBounds iA true) = true) (fr2 : Region.free md ops (((listed.setIfInBounds i0 true).setIfInBounds i1 true).setIfInBounds iA true) ib = true) (rd2 : (Region.ready md ops (((listed.setIfInBounds i0 true).setIfInBounds i1 true).setIfInBounds iA true)).contains ib = true)
    (hne : i0 ≠ i1 ∧ i0 ≠ iA ∧ i1 ≠ iA ∧ ib ≠ iA ∧ d0 ≠ d1 ∧ d0 ≠ dA ∧ d1 ≠ dA ∧ db ≠ dA ∧ d0 ≠ x ∧ dA ≠ x ∧ d0 ≠ px ∧ d1 ≠ px ∧ dA ≠ px) (hd0 : d0 < a.tmps.size) (hd1 : d1 < a.tmps.size) (hdb : db < a.tmps.size) (hdA : dA < a.tmps.size)
    (ht : P.underlying t = some (.slice e)) (z : Value) (bytes : Nat) (hinfo : (P.info? e).map (fun i => (i.zero, i.size, i.bytes)) = some (some z, N, bytes)) (hzs : z.cells.size = N) (hNp : 0 < N) (hN : ∀ x, (cells x).length = N) (h1c : ∀ x, ∀ u ∈ cells x, u.oneCell' = true)
    (Z : Array Value) (hZ : Z.size = 2) (hTinfo : (P.info? T).map (fun i => (i.zero, i.size)) = some (some (.agg Z), 2)) (hpc : pv.oneCell' = true) (hTe : T ≠ e)
    {q : SlV} {ys : List α} (hx : a.eval (.tmp x) = .slice q.a q.len q.cap) (hq : ∀ W, Fr noB w0 W → SlOf W N cells ok q ys) (hnil : q.a = none → q.cap = 0)
    (hbytes : ys.length * bytes ≤ 140737488355328) (hm : ys.length ≤ maxLen) (hw0 : Fr noB w0 w)
    (h : ∀ v0 s' ga w', NewL w0 w' e N cells s' ys → Fr noB w0 w' → w0.heap.size ≤ ga → Blk w' ga #[pv, .slice s'.a s'.len s'.cap] T →
      wpAnyG P md ops (fun W => ∃ z : Grow w0, W = z.v) D L fuel (((((listed.setIfInBounds i0 true).setIfInBounds i1 true).setIfInBounds ib true).setIfInBounds iA true).setIfInBounds k true) ((((a.put (some d0) v0).put (some d1) (.slice s'.a s'.len s'.cap)).put (some db) (.agg #[pv, .slice s'.a s'.len s'.cap])).put (some dA) (.pointer (some ⟨ga, 0, none⟩))) w') :
    wpAnyG P md ops (fun W => ∃ z : Grow w0, W = z.v) D L (fuel + 1 + 1 + 1 + 1 + 1) listed a w := by
  obtain ⟨n01, n0A, n1A, nbA, m01, m0A, m1A, mbA, mx0, mxA, mp0, mp1, mpA⟩ := hne
  have hinf : (P.info? e).isSome = true := by
    obtain ⟨i, hi, hi2⟩ := Option.map_eq_some_iff.1 hinfo
    rw [hi]; rfl
  have hi1 : (P.info? T).map (·.size) = some 2 := by
    obtain ⟨i, hi, hi2⟩ := Option.map_eq_some_iff.1 hTinfo
    simp only [Prod.mk.injEq] at hi2
    rw [hi]; simp [hi2.2]
  have c0 : calmOp o0.op = false := by rw [p0]; rfl
  have c1 : calmOp o1.op = false := by rw [p1]; rfl
  have cA : calmOp oA.op = false := by rw [pA]; rfl
  have cs : calmOp os.op = false := by rw [ps]; rfl
  have inG : ∀ {W : World}, Fr noB w0 W → ∃ z : Grow w0, W = z.v := fun h => ⟨⟨_, h⟩, rfl⟩
  have b0 : ∀ (a : Act) (W : World), (execOp a.eval o0).run P W = .ok (.value (.slice (some ⟨W.heap.size, 0, none⟩) 0 0)) (W.alloc (.cells #[] e)) := fun a W => by
    unfold execOp
    simp only [p0, List.map_toArray, List.map_nil]
    exact exec_v (run_build0 ht hinf W)
  have bA : ∀ (a : Act) (W : World), (execOp a.eval oA).run P W = .ok (.value (.pointer (some ⟨W.heap.size, 0, none⟩))) (W.alloc (.cells Z T)) := fun a W => by
    obtain ⟨i, hi, hi2⟩ := Option.map_eq_some_iff.1 hTinfo
    simp only [Prod.mk.injEq] at hi2
    unfold execOp
    simp only [pA]
    refine exec_v ?_
    simp [Instr.alloc, Sem.run_bind, zeroValue, typeInfo, hi, hi2.1, newVar, newRow, Value.cells]
  have b1 : ∀ (a : Act) (W : World) (s : SlV), NewL w0 W e N cells s ([] : List α) → Fr noB w0 W → a.eval (.tmp d0) = .slice s.a s.len s.cap → a.eval (.tmp x) = .slice q.a q.len q.cap →
      ∃ s' W', (execOp a.eval o1).run P W = .ok (.value (.slice s'.a s'.len s'.cap)) W' ∧ NewL w0 W' e N cells s' ys ∧ Fr noB w0 W' ∧ Fr (ownB s) W W' := fun a W s hn hf hs hx => by
    obtain ⟨s', W', hr, j1, j2, j3⟩ := run_append_rows (P := P) (ty := o1.type) ht z bytes hinfo hzs hNp hN h1c hn.1 (hq W hf) hnil (by simp; exact hm) (by simp; exact hbytes)
    obtain ⟨k1, k2⟩ := hn.step hf j1 j2 j3
    refine ⟨s', W', ?_, by simpa using k1, k2, j2⟩
    unfold execOp
    simp only [p1, resolve, invoke, builtin, Sem.run_bind, Sem.run_pure, Result.andThen_ok, List.map_toArray, List.map_cons, List.map_nil, hs, hx, hr]
  -- all are made but the store
  have fin : ∀ (v0 : Value) (s1 : SlV) (ga : Nat) (W : World), NewL w0 W e N cells s1 ys → Fr noB w0 W → w0.heap.size ≤ ga → Blk W ga Z T → ¬ ownB s1 ga →
      wpAnyG P md ops (fun W => ∃ z : Grow w0, W = z.v) D L (fuel + 1) ((((listed.setIfInBounds i0 true).setIfInBounds i1 true).setIfInBounds ib true).setIfInBounds iA true) ((((a.put (some d0) v0).put (some d1) (.slice s1.a s1.len s1.cap)).put (some db) (.agg #[pv, .slice s1.a s1.len s1.cap])).put (some dA) (.pointer (some ⟨ga, 0, none⟩))) W := fun v0 s1 ga W hn hf hga hB hno => by
    have hr := run_store_blk (P := P) (cs := [pv, .slice s1.a s1.len s1.cap]) hB (by rw [hZ]; rfl) hi1 (fun u hu => by
      simp only [List.mem_cons, List.not_mem_nil, or_false] at hu
      rcases hu with rfl | rfl
      · exact hpc
      · rfl)
    have f1 : Fr noB w0 (W.setRow ga #[pv, .slice s1.a s1.len s1.cap]) := hf.setRow (.inl hga) _
    have f2 : Fr (oneB ga) W (W.setRow ga #[pv, .slice s1.a s1.len s1.cap]) := (Fr.refl (oneB ga) W).setRow (.inr rfl) _
    have vA : ((((a.put (some d0) v0).put (some d1) (.slice s1.a s1.len s1.cap)).put (some db) (.agg #[pv, .slice s1.a s1.len s1.cap])).put (some dA) (.pointer (some ⟨ga, 0, none⟩))).eval (.tmp dA) = .pointer (some ⟨ga, 0, none⟩) := eval_put_eq _ _ _ (by rw [size_put, size_put, size_put]; exact hdA)
    have vb : ((((a.put (some d0) v0).put (some d1) (.slice s1.a s1.len s1.cap)).put (some db) (.agg #[pv, .slice s1.a s1.len s1.cap])).put (some dA) (.pointer (some ⟨ga, 0, none⟩))).eval (.tmp db) = .agg #[pv, .slice s1.a s1.len s1.cap] := by rw [eval_put_ne _ _ _ _ (fun h => mbA h.symm), eval_put_eq _ _ _ (by rw [size_put, size_put]; exact hdb)]
    refine any_one k hk r6 ?_
    unfold Go.Proofs.Ytgjabgneapdbiaa.mOp mOper
    simp only [hk]
    rw [if_pos (by simp [Region.wanted, gs]), if_neg (by rw [cs]; exact Bool.false_ne_true)]
    unfold Oper.wp execOp
    simp only [ps, vA, vb, Instr.storeAt, Instr.sureAddr, Sem.run_bind, Sem.run_pure, Result.andThen_ok, hr, Oper.upon, es]
    exact ⟨rfl, inG f1, h v0 s1 ga _ (hn.frS f2 (fun b hb he => by unfold oneB at he; subst he; exact hno hb)) f1 hga (Blk.setRow (cs' := #[pv, .slice s1.a s1.len s1.cap]) hB)⟩
  have calm : ∀ (b : Act) (v : SlV) (K : Act → Prop), b.eval (.tmp px) = pv → b.eval (.tmp d1) = .slice v.a v.len v.cap → K (b.put ob.dst (.agg #[pv, .slice v.a v.len v.cap])) → ob.quiet P b (fun W => ∃ z : Grow w0, W = z.v) K := fun b v K hp hd hK => ⟨_, fun W _ => by
    unfold Oper.quietAt
    rw [run b W v hp hd]
    exact ⟨rfl, rfl⟩, hK⟩
  have wnt : ∀ ts, Region.wanted ob ts = true := fun ts => by simp [Region.wanted, gb]
  refine any_two i0 iA r1 (mOp_run h0 g0 c0 (b0 a w) (inG (hw0.alloc _)) ?_) (mOp_run hA gA cA (bA a w) (inG (hw0.alloc _)) ?_)
  · rw [e0]
    have hn0 := NewL.zero w0 w hw0 e N cells (α := α)
    have hf0 := hw0.alloc (.cells #[] e)
    refine any_two i1 iA r2 ?_ ?_
    · obtain ⟨s1, W1, hr, k1, k2, k3⟩ := b1 (a.put (some d0) (.slice (some ⟨w.heap.size, 0, none⟩) 0 0)) _ _ hn0 hf0 (eval_put_eq _ _ _ hd0) (by rw [eval_put_ne _ _ _ _ mx0]; exact hx)
      refine mOp_run h1 g1 c1 hr (inG k2) ?_
      rw [e1]
      refine any_calm ib hL hb hns cl1 fr1 rd1 (inG k2) (wnt _) pb (fun K hK => calm _ s1 K (by rw [eval_put_ne _ _ _ _ mp1, eval_put_ne _ _ _ _ mp0, hpv]) (eval_put_eq _ _ _ (by rw [size_put]; exact hd1)) (hK _ ?_))
      rw [eb]
      refine any_one iA hA r5 (mOp_run hA gA cA (bA _ W1) (inG (k2.alloc _)) ?_)
      rw [eA]
      exact fin _ s1 W1.heap.size _ (k1.fr ((Fr.refl _ _).alloc _)) (k2.alloc _) k2.size (Blk.alloc_new _ _ _) (fun hb => by have := k1.1.lt _ hb; omega)
    · refine mOp_run hA gA cA (bA _ _) (inG (hf0.alloc _)) ?_
      rw [eA]
      have hn1 := hn0.fr ((Fr.refl noB _).alloc (.cells Z T))
      have hB := Blk.alloc_new (w.alloc (.cells #[] e)) Z T
      obtain ⟨s1, W1, hr, k1, k2, k3⟩ := b1 ((a.put (some d0) (.slice (some ⟨w.heap.size, 0, none⟩) 0 0)).put (some dA) (.pointer (some ⟨(w.alloc (.cells #[] e)).heap.size, 0, none⟩))) _ _ hn1 (hf0.alloc _)
        (by rw [eval_put_ne _ _ _ _ (fun h => m0A h.symm)]; exact eval_put_eq _ _ _ hd0) (by rw [eval_put_ne _ _ _ _ mxA, eval_put_ne _ _ _ _ mx0]; exact hx)
      refine any_one i1 h1 r3 (mOp_run h1 g1 c1 hr (inG k2) ?_)
      rw [e1, Array.setIfInBounds_comm _ _ (fun h => n1A h.symm), put_swap _ _ _ (fun h => m1A h.symm)]
      refine any_calm ib hL hb hns cl2 fr2 rd2 (inG k2) (wnt _) pb (fun K hK => calm _ s1 K (by rw [eval_put_ne _ _ _ _ mpA, eval_put_ne _ _ _ _ mp1, eval_put_ne _ _ _ _ mp0, hpv]) (by rw [eval_put_ne _ _ _ _ (fun h => m1A h.symm), eval_put_eq _ _ _ (by rw [size_put]; exact hd1)]) (hK _ ?_))
      rw [eb, Array.setIfInBounds_comm _ _ (fun h => nbA h.symm), put_swap _ _ _ (fun h => mbA h.symm)]
      have hno : ¬ ownB ⟨some ⟨w.heap.size, 0, none⟩, 0, 0⟩ (w.alloc (.cells #[] e)).heap.size := by
        rintro ⟨y, hy, hb⟩
        simp only [Option.some.injEq] at hy
        subst hy
        simp at hb
      exact fin _ s1 _ _ k1 k2 hf0.size (hB.fr k3 hno) (own_ne_blk (hB.fr k3 hno) k1.1 hTe)
  · rw [eA]
    have hf0 := hw0.alloc (.cells Z T)
    have hn0 := NewL.zero w0 _ hf0 e N cells (α := α)
    refine any_one i0 h0 r4 (mOp_run h0 g0 c0 (b0 _ _) (inG (hf0.alloc _)) ?_)
    rw [e0]
    have hB := (Blk.alloc_new w Z T).fr ((Fr.refl noB _).alloc (.cells #[] e)) (fun h => h)
    obtain ⟨s1, W1, hr, k1, k2, k3⟩ := b1 ((a.put (some dA) (.pointer (some ⟨w.heap.size, 0, none⟩))).put (some d0) (.slice (some ⟨(w.alloc (.cells Z T)).heap.size, 0, none⟩) 0 0)) _ _ hn0 (hf0.alloc _)
      (eval_put_eq _ _ _ (by rw [size_put]; exact hd0)) (by rw [eval_put_ne _ _ _ _ mx0, eval_put_ne _ _ _ _ mxA]; exact hx)
    have r3' : Region.ready md ops ((listed.setIfInBounds iA true).setIfInBounds i0 true) = [i1] := by rw [Array.setIfInBounds_comm _ _ (fun h => n0A h.symm)]; exact r3
    refine any_one i1 h1 r3' (mOp_run h1 g1 c1 hr (inG k2) ?_)
    rw [e1, put_swap _ _ _ (fun h => m0A h.symm), put_swap _ _ _ (fun h => m1A h.symm), Array.setIfInBounds_comm _ _ (fun h => n0A h.symm), Array.setIfInBounds_comm _ _ (fun h => n1A h.symm)]
    refine any_calm ib hL hb hns cl2 fr2 rd2 (inG k2) (wnt _) pb (fun K hK => calm _ s1 K (by rw [eval_put_ne _ _ _ _ mpA, eval_put_ne _ _ _ _ mp1, eval_put_ne _ _ _ _ mp0, hpv]) (by rw [eval_put_ne _ _ _ _ (fun h => m1A h.symm), eval_put_eq _ _ _ (by rw [size_put]; exact hd1)]) (hK _ ?_))
    rw [eb, Array.setIfInBounds_comm _ _ (fun h => nbA h.symm), put_swap _ _ _ (fun h => mbA h.symm)]
    have hno : ¬ ownB ⟨some ⟨(w.alloc (.cells Z T)).heap.size, 0, none⟩, 0, 0⟩ w.heap.size := by
      rintro ⟨y, hy, hb⟩
      simp only [Option.some.injEq] at hy
      subst hy
      simp at hb
    exact fin _ s1 _ _ k1 k2 hw0.size (hB.fr k3 hno) (own_ne_blk (hB.fr k3 hno) k1.1 hTe)
end Go.Proofs.Ytgjabgneapdbiaa
