/- Regions that draw their order, op by op; and the pattern append(append([]T{}, xs...), y), whose two literals may be made in either order. -/
import Derived.Test.YtgjabgneapdbiaaStep
import Derived.Test.YtgjabgneapdbiaaOwn0
namespace Go.Proofs.Ytgjabgneapdbiaa
open Go.RowKit
set_option linter.unusedSimpArgs false
set_option linter.unusedVariables false

section
variable {P : Program} {ops : Array Oper} {md : Region.Mode} {S : World → Prop} {D : Act → World → Prop} {L : Array Bool → Act → World → Prop} {fuel : Nat} {listed : Array Bool} {a : Act} {w : World}

def closedB (md : Region.Mode) (ops : Array Oper) (listed : Array Bool) : Bool :=
  (List.range ops.size).all fun j => !listed.getD j false || match ops[j]? with | some o => o.after.all (fun e => !Region.binds md e || listed.getD e.on false) | none => true
theorem closed_of {listed : Array Bool} (h : closedB md ops listed = true) : ClosedL md ops listed := fun j oj hj hl e he hb => by
  simp only [closedB, List.all_eq_true, List.mem_range] at h
  have h1 := h j (Array.getElem?_eq_some_iff.1 hj).1
  simp only [hj, hl, Bool.not_true, Bool.false_or] at h1
  have h2 := Array.all_eq_true'.1 h1 e he
  simpa [hb] using h2
theorem any_start {id : Nat} {Q' : Exit → Act → World → Prop} {l : List Oper} (S : World → Prop) (n : Nat) (hn : l.length = n) (hm : P.follows .mixedOrders = true) (hS : S w.drew)
    (h : ∀ L, LastL .any l.toArray (ClosedL .any l.toArray) L → (∀ listed a w, Region.ready .any l.toArray listed = [] → Q' .normal a w → L listed a w) → wpAnyG P .any l.toArray S (fun a' w' => Q' .normal a' w') L n (Array.replicate n false) a w.drew) : (Code.region id l.toArray true).wp P Q' a w := by
  subst hn
  refine wp_region_any hm (wpAny_of_mix (S := S) (Q := fun a' w' => Q' .normal a' w') (fun _ _ _ h => h) _ _ _ _ hS ?_)
  have := h (fun listed a w => Region.ready .any l.toArray listed = [] ∧ Q' .normal a w) (fun listed i a w _ hi h j hj => by
    by_cases e : j = i
    · exact e
    · have := ready_mono hj e
      rw [h.1] at this
      cases this) (fun _ _ _ h1 h2 => ⟨h1, h2⟩)
  simpa using this
/-- .. whose last operation may be whatever it is. -/
theorem any_startT {id : Nat} {Q' : Exit → Act → World → Prop} {l : List Oper} (S : World → Prop) (n : Nat) (hn : l.length = n + 1) (hm : P.follows .mixedOrders = true) (hB : lastB .any l.toArray n = true) (hS : S w.drew)
    (h : ∀ L, LastL .any l.toArray (ClosedL .any l.toArray) L → (∀ listed a w, closedB .any l.toArray listed = true → Region.ready .any l.toArray listed = [n] → wpList P l.toArray Q' (l.drop n) a w → L listed a w) → wpAnyG P .any l.toArray S (fun _ _ => False) L n (Array.replicate (n + 1) false) a w.drew) : (Code.region id l.toArray true).wp P Q' a w := by
  have hsz : l.toArray.size = n + 1 := by simpa using hn
  have hL : LastL .any l.toArray (ClosedL .any l.toArray) (fun listed a w => Region.ready .any l.toArray listed = [n] ∧ ClosedL .any l.toArray listed ∧ wpList P l.toArray Q' (l.drop n) a w) := fun listed i a w hcl hi h j hj => by
    by_cases e : j = i
    · exact e
    · exfalso
      have h1 := ready_mono hj e
      rw [h.1] at h1
      have hjn : j = n := by simpa using h1
      subst hjn
      obtain ⟨hun, oi, hoi, _⟩ := mem_ready.1 hi
      have hin : i < j := by
        have := (Array.getElem?_eq_some_iff.1 hoi).1
        rw [hsz] at this
        omega
      have := last_ready hcl hB hj hin
      rcases Nat.lt_or_ge i listed.size with h' | h'
      · simp [h'] at hun this; rw [hun] at this; cases this
      · simp [Array.getElem?_eq_none h'] at this
  have hall := h _ hL (fun listed a w h1 h2 h3 => ⟨h2, closed_of h1, h3⟩)
  refine wp_region_any hm ?_
  have := wpAny_of_mixG (m := 1) (Q' := Q') (md := .any) (fun _ _ _ h => h.elim) (fun listed a' w' hw' h => tail_leaf hn hB h) _ _ _ _ hS hall
  rw [hsz]
  exact this
theorem any_calm (k : Nat) {o : Oper} (hL : LastL md ops (ClosedL md ops) L) (hk : ops[k]? = some o) (hs : Region.noSelect ops = true) (hcl : closedB md ops listed = true) (hf : Region.free md ops listed k = true) (hr : (Region.ready md ops listed).contains k = true) (hS : S w)
    (hw : Region.wanted o (yielded ops a.tmps) = true) (hc : calmOp o.op = true)
    (h : ∀ K : Act → Prop, (∀ a, wpAnyG P md ops S D L fuel (listed.setIfInBounds k true) a w → K a) → o.quiet P a S K) : wpAnyG P md ops S D L (fuel + 1) listed a w := by
  obtain ⟨v, hv, hn⟩ := h _ (fun _ h => h)
  exact wpAnyG_first (fun _ _ h hj => h.set hj) hL hk (Region.noSelect_spec hs) fuel listed a w hS (closed_of hcl) (Region.free_spec hk hf) (by simpa using hr) (.inl ⟨hw, hc, hv⟩) hn
theorem any_skip (k : Nat) {o : Oper} (hL : LastL md ops (ClosedL md ops) L) (hk : ops[k]? = some o) (hs : Region.noSelect ops = true) (hcl : closedB md ops listed = true) (hf : Region.free md ops listed k = true) (hr : (Region.ready md ops listed).contains k = true) (hS : S w)
    (hw : Region.wanted o (yielded ops a.tmps) = false) (h : wpAnyG P md ops S D L fuel (listed.setIfInBounds k true) (a.put o.dst undef) w) : wpAnyG P md ops S D L (fuel + 1) listed a w :=
  wpAnyG_first (fun _ _ h hj => h.set hj) hL hk (Region.noSelect_spec hs) fuel listed a w hS (closed_of hcl) (Region.free_spec hk hf) (by simpa using hr) (.inr ⟨hw, rfl⟩) h
theorem any_load_at (k : Nat) {o : Oper} (hL : LastL md ops (ClosedL md ops) L) (hk : ops[k]? = some o) (hs : Region.noSelect ops = true) (hcl : closedB md ops listed = true) (hf : Region.free md ops listed k = true) (hr : (Region.ready md ops listed).contains k = true) (hS : S w)
    (hw : Region.wanted o (yielded ops a.tmps) = true) (ty : TypeId) (x : Operand) (ho : o.op = .load ty x)
    (b off : Nat) (hx : a.eval x = .pointer (some ⟨b, off, none⟩)) (cs : List Value) (hc : ∀ w, S w → CellsAt w b off cs) (d : TypeDesc)
    (hu : P.underlying ty = some d) (hd : (match d with | .struct _ | .array _ _ => true | _ => false) = true) (hi : (P.info? ty).map (·.size) = some cs.length)
    (h : wpAnyG P md ops S D L fuel (listed.setIfInBounds k true) (a.put o.dst (.agg cs.toArray)) w) : wpAnyG P md ops S D L (fuel + 1) listed a w := by
  refine any_calm k hL hk hs hcl hf hr hS hw (by rw [ho]; rfl) (fun K hK => ⟨_, fun w hw => ?_, hK _ h⟩)
  unfold Oper.quietAt execOp
  simp only [ho, hx, Instr.loadAt, Instr.sureAddr, Sem.run_bind, Sem.run_pure, Result.andThen_ok, run_loadVar_at w ty b off cs (hc w hw) d hu hd hi]
  exact ⟨rfl, rfl⟩
theorem any_leaf (h : L listed a w) : wpAnyG P md ops S D L 0 listed a w := h
theorem mOp_run {k : Nat} {o : Oper} {K : Act → World → Prop} (hk : ops[k]? = some o) (hg : o.guard = none) (hc : calmOp o.op = false) {v : Value} {w' : World} (hr : (execOp a.eval o).run P w = .ok (.value v) w') (hS : S w') (h : K (a.put o.dst v) w') :
    mOp P ops S k K a w := by
  unfold mOp mOper
  simp only [hk]
  rw [if_pos (by simp [Region.wanted, hg]), if_neg (by rw [hc]; exact Bool.false_ne_true)]
  unfold Oper.wp
  rw [hr]
  exact ⟨by cases o.dst <;> rfl, hS, h⟩
theorem any_one (k : Nat) {o : Oper} (hk : ops[k]? = some o) (hr : Region.ready md ops listed = [k]) (h : mOp P ops S k (wpAnyG P md ops S D L fuel (listed.setIfInBounds k true)) a w) : wpAnyG P md ops S D L (fuel + 1) listed a w :=
  ⟨fun h0 => by rw [hr] at h0; simp at h0, fun i hi => by rw [hr] at hi; simp at hi; subst hi; exact h⟩
theorem any_two (i j : Nat) (hr : Region.ready md ops listed = [i, j]) (h1 : mOp P ops S i (wpAnyG P md ops S D L fuel (listed.setIfInBounds i true)) a w) (h2 : mOp P ops S j (wpAnyG P md ops S D L fuel (listed.setIfInBounds j true)) a w) : wpAnyG P md ops S D L (fuel + 1) listed a w :=
  ⟨fun h0 => by rw [hr] at h0; simp at h0, fun x hx => by rw [hr] at hx; simp at hx; rcases hx with rfl | rfl <;> assumption⟩
theorem mOp_spine {k : Nat} {o : Oper} {K : Act → World → Prop} (hk : ops[k]? = some o) (hg : Region.wanted o (yielded ops a.tmps) = true) (hc : calmOp o.op = false)
    (h : ∀ K' : Act → World → Prop, (∀ a' w', a'.defers = a.defers → S w' → K a' w' → K' a' w') → o.wp P a w K' noQ) : mOp P ops S k K a w := by
  unfold mOp mOper
  simp only [hk]
  rw [if_pos hg, if_neg (by rw [hc]; exact Bool.false_ne_true)]
  exact h _ (fun _ _ h1 h2 h3 => ⟨h1, h2, h3⟩)
end

theorem any_append_new {α : Type} {P : Program} {ops : Array Oper} {md : Region.Mode} {D : Act → World → Prop} {L : Array Bool → Act → World → Prop} {fuel : Nat} {listed : Array Bool} {a : Act} {w w0 : World} {e t : TypeId} {N : Nat} {cells : α → List Value} {ok : α → Prop} {s q : SlV} {xs ys : List α}
    (k : Nat) {o : Oper} (hk : ops[k]? = some o) (hr : Region.ready md ops listed = [k]) (hg : o.guard = none) (sx xx : Operand)
    (ho : o.op = .call { callee := .builtin .append, args := #[sx, xx], argTypes := #[t, t] }) (ht : P.underlying t = some (.slice e)) (z : Value) (bytes : Nat)
    (hinfo : (P.info? e).map (fun i => (i.zero, i.size, i.bytes)) = some (some z, N, bytes)) (hzs : z.cells.size = N) (hNp : 0 < N) (hN : ∀ x, (cells x).length = N) (h1c : ∀ x, ∀ u ∈ cells x, u.oneCell' = true)
    (hs : a.eval sx = .slice s.a s.len s.cap) (hown : NewL w0 w e N cells s xs) (h0 : Fr noB w0 w) (hx : a.eval xx = .slice q.a q.len q.cap) (hq : SlOf w N cells ok q ys) (hnil : q.a = none → q.cap = 0)
    (hm : xs.length + ys.length ≤ maxLen) (hbytes : (xs.length + ys.length) * bytes ≤ 140737488355328)
    (h : ∀ s' w', NewL w0 w' e N cells s' (xs ++ ys) → Fr noB w0 w' → Fr (ownB s) w w' → wpAnyG P md ops (fun W => ∃ z : Grow w0, W = z.v) D L fuel (listed.setIfInBounds k true) (a.put o.dst (.slice s'.a s'.len s'.cap)) w') :
    wpAnyG P md ops (fun W => ∃ z : Grow w0, W = z.v) D L (fuel + 1) listed a w := by
  obtain ⟨s', w', hr', h1, h2, h3⟩ := run_append_rows (P := P) (ty := o.type) ht z bytes hinfo hzs hNp hN h1c hown.1 hq hnil hm hbytes
  obtain ⟨g1, g2⟩ := hown.step h0 h1 h2 h3
  refine any_one k hk hr (mOp_run hk hg (by rw [ho]; rfl) (v := .slice s'.a s'.len s'.cap) (w' := w') ?_ ⟨⟨w', g2⟩, rfl⟩ (h s' w' g1 g2 h2))
  unfold execOp
  simp only [ho, resolve, invoke, builtin, Sem.run_bind, Sem.run_pure, Result.andThen_ok, List.map_toArray, List.map_cons, List.map_nil, hs, hx, hr']

theorem run_build1 {P : Program} {t e : TypeId} (ht : P.underlying t = some (.slice e)) (z : Value) (size : Nat) (hinfo : (P.info? e).map (fun i => (i.zero, i.size)) = some (some z, size)) (u : Value) (C : Array Value)
    (hsz : size ≤ 2 ^ 24) (h0 : size ≠ 0) (hf : Instr.fill (fun j => some (j * size, size)) ((Array.range (1 * size)).map (z.cells[· % z.cells.size]!)) [(0, u)] = some C) (w : World) :
    (Instr.buildSlice t 1 #[(0, u)]).run P w = .ok (.slice (some ⟨w.heap.size, 0, none⟩) 1 1) (w.alloc (.cells C e)) :=
  run_buildSlice_as ht z size hinfo 1 #[(0, u)] C (by omega) (by omega) hf w

theorem eval_put_ne (a : Act) (d x : Tmp) (v : Value) (h : d ≠ x) : (a.put (some d) v).eval (.tmp x) = a.eval (.tmp x) := by
  show (a.tmps.setIfInBounds d v).getD x undef = a.tmps.getD x undef
  rw [Array.getD_eq_getD_getElem?, Array.getD_eq_getD_getElem?, Array.getElem?_setIfInBounds_ne h]
theorem eval_put_eq (a : Act) (d : Tmp) (v : Value) (h : d < a.tmps.size) : (a.put (some d) v).eval (.tmp d) = v := by
  show (a.tmps.setIfInBounds d v).getD d undef = v
  rw [Array.getD_eq_getD_getElem?, Array.getElem?_setIfInBounds_self_of_lt h]
  rfl
theorem size_put (a : Act) (d : Tmp) (v : Value) : (a.put (some d) v).tmps.size = a.tmps.size := by
  show (a.tmps.setIfInBounds d v).size = a.tmps.size
  simp

theorem put_swap (a : Act) {d d' : Tmp} (v v' : Value) (h : d ≠ d') : (a.put (some d) v).put (some d') v' = (a.put (some d') v').put (some d) v := by
  show { a with tmps := (a.tmps.setIfInBounds d v).setIfInBounds d' v' } = { a with tmps := (a.tmps.setIfInBounds d' v').setIfInBounds d v }
  rw [Array.setIfInBounds_comm _ _ h]
/-- append(append([]T{}, q...), v) -/
theorem any_app2 {α : Type} {P : Program} {ops : Array Oper} {md : Region.Mode} {D : Act → World → Prop} {L : Array Bool → Act → World → Prop} {fuel : Nat} {listed : Array Bool} {a : Act} {w w0 : World} {e t : TypeId} {N : Nat} {cells : α → List Value} {ok : α → Prop}
    (i0 i1 i2 i3 : Nat) (d0 d1 d2 d3 x y : Tmp) {o0 o1 o2 o3 : Oper} (h0 : ops[i0]? = some o0) (h1 : ops[i1]? = some o1) (h2 : ops[i2]? = some o2) (h3 : ops[i3]? = some o3)
    (g0 : o0.guard = none) (g1 : o1.guard = none) (g2 : o2.guard = none) (g3 : o3.guard = none) (e0 : o0.dst = some d0) (e1 : o1.dst = some d1) (e2 : o2.dst = some d2) (e3 : o3.dst = some d3)
    (p0 : o0.op = .buildSlice t 0 #[]) (p1 : o1.op = .call { callee := .builtin .append, args := #[.tmp d0, .tmp x], argTypes := #[t, t] }) (p2 : o2.op = .buildSlice t 1 #[(0, .tmp y)]) (p3 : o3.op = .call { callee := .builtin .append, args := #[.tmp d1, .tmp d2], argTypes := #[t, t] })
    (r1 : Region.ready md ops listed = [i0, i2]) (r2 : Region.ready md ops (listed.setIfInBounds i0 true) = [i1, i2]) (r3 : Region.ready md ops ((listed.setIfInBounds i0 true).setIfInBounds i1 true) = [i2])
    (r4 : Region.ready md ops ((listed.setIfInBounds i0 true).setIfInBounds i2 true) = [i1]) (r5 : Region.ready md ops (listed.setIfInBounds i2 true) = [i0]) (r7 : Region.ready md ops (((listed.setIfInBounds i0 true).setIfInBounds i1 true).setIfInBounds i2 true) = [i3])
    (hne : i0 ≠ i1 ∧ i0 ≠ i2 ∧ i1 ≠ i2 ∧ d0 ≠ d1 ∧ d0 ≠ d2 ∧ d1 ≠ d2 ∧ d0 ≠ x ∧ d2 ≠ x ∧ d0 ≠ y ∧ d1 ≠ y) (hd0 : d0 < a.tmps.size) (hd1 : d1 < a.tmps.size) (hd2 : d2 < a.tmps.size)
    (ht : P.underlying t = some (.slice e)) (z : Value) (bytes : Nat) (hinfo : (P.info? e).map (fun i => (i.zero, i.size, i.bytes)) = some (some z, N, bytes)) (hzs : z.cells.size = N) (hNp : 0 < N) (hNs : N ≤ 2 ^ 24) (hN : ∀ x, (cells x).length = N) (h1c : ∀ x, ∀ u ∈ cells x, u.oneCell' = true)
    (v : α) (hok : ok v) (hfill : Instr.fill (fun j => some (j * N, N)) ((Array.range (1 * N)).map (z.cells[· % z.cells.size]!)) [(0, .agg (cells v).toArray)] = some (cells v).toArray)
    {q : SlV} {ys : List α} (hx : a.eval (.tmp x) = .slice q.a q.len q.cap) (hy : a.eval (.tmp y) = .agg (cells v).toArray) (hq : ∀ W, Fr noB w0 W → SlOf W N cells ok q ys) (hnil : q.a = none → q.cap = 0)
    (hbytes : (ys.length + 1) * bytes ≤ 140737488355328) (hm : ys.length + 1 ≤ maxLen) (hw0 : Fr noB w0 w)
    (h : ∀ v0 v1 v2 s' w', NewL w0 w' e N cells s' (ys ++ [v]) → Fr noB w0 w' →
      wpAnyG P md ops (fun W => ∃ z : Grow w0, W = z.v) D L fuel ((((listed.setIfInBounds i0 true).setIfInBounds i1 true).setIfInBounds i2 true).setIfInBounds i3 true) ((((a.put (some d0) v0).put (some d1) v1).put (some d2) v2).put (some d3) (.slice s'.a s'.len s'.cap)) w') :
    wpAnyG P md ops (fun W => ∃ z : Grow w0, W = z.v) D L (fuel + 1 + 1 + 1 + 1) listed a w := by
  obtain ⟨n01, n02, n12, m01, m02, m12, mx0, mx2, my0, my1⟩ := hne
  have hinfo2 : (P.info? e).map (fun i => (i.zero, i.size)) = some (some z, N) := by
    obtain ⟨i, hi, hi2⟩ := Option.map_eq_some_iff.1 hinfo
    simp only [Prod.mk.injEq] at hi2
    rw [hi]; simp [hi2.1, hi2.2.1]
  have hinf : (P.info? e).isSome = true := by
    obtain ⟨i, hi, hi2⟩ := Option.map_eq_some_iff.1 hinfo
    rw [hi]; rfl
  have c0 : calmOp o0.op = false := by rw [p0]; rfl
  have c1 : calmOp o1.op = false := by rw [p1]; rfl
  have c2 : calmOp o2.op = false := by rw [p2]; rfl
  have c3 : calmOp o3.op = false := by rw [p3]; rfl
  have inG : ∀ {W : World}, Fr noB w0 W → ∃ z : Grow w0, W = z.v := fun h => ⟨⟨_, h⟩, rfl⟩
  -- the first literal
  have b0 : ∀ (a : Act) (W : World), (execOp a.eval o0).run P W = .ok (.value (.slice (some ⟨W.heap.size, 0, none⟩) 0 0)) (W.alloc (.cells #[] e)) := fun a W => by
    unfold execOp
    simp only [p0, List.map_toArray, List.map_nil]
    exact exec_v (run_build0 ht hinf W)
  have b2 : ∀ (a : Act) (W : World), a.eval (.tmp y) = .agg (cells v).toArray → (execOp a.eval o2).run P W = .ok (.value (.slice (some ⟨W.heap.size, 0, none⟩) 1 1)) (W.alloc (.cells (cells v).toArray e)) := fun a W hy => by
    unfold execOp
    simp only [p2, List.map_toArray, List.map_cons, List.map_nil, hy]
    exact exec_v (run_build1 ht z N hinfo2 _ _ hNs (by omega) hfill W)
  have b1 : ∀ (a : Act) (W : World) (s : SlV), NewL w0 W e N cells s ([] : List α) → Fr noB w0 W → a.eval (.tmp d0) = .slice s.a s.len s.cap → a.eval (.tmp x) = .slice q.a q.len q.cap →
      ∃ s' W', (execOp a.eval o1).run P W = .ok (.value (.slice s'.a s'.len s'.cap)) W' ∧ NewL w0 W' e N cells s' ys ∧ Fr noB w0 W' ∧ Fr (ownB s) W W' ∧ (∀ b, ownB s' b → ownB s b ∨ W.heap.size ≤ b) := fun a W s hn hf hs hx => by
    obtain ⟨s', W', hr, j1, j2, j3⟩ := run_append_rows (P := P) (ty := o1.type) ht z bytes hinfo hzs hNp hN h1c hn.1 (hq W hf) hnil (by simp; omega) (by simp; exact Nat.le_trans (Nat.mul_le_mul_right _ (Nat.le_succ _)) hbytes)
    obtain ⟨k1, k2⟩ := hn.step hf j1 j2 j3
    refine ⟨s', W', ?_, by simpa using k1, k2, j2, ?_⟩
    · unfold execOp
      simp only [p1, resolve, invoke, builtin, Sem.run_bind, Sem.run_pure, Result.andThen_ok, List.map_toArray, List.map_cons, List.map_nil, hs, hx, hr]
    · rintro b ⟨x, hx, rfl⟩
      rcases j3 with ⟨e1, _⟩ | ⟨g', e1, hg, _⟩
      · exact .inl ⟨x, by rw [← e1]; exact hx, rfl⟩
      · rw [e1] at hx
        simp only [Option.some.injEq] at hx
        subst hx
        exact .inr hg
  have fin : ∀ (v0 : Value) (s1 q2 : SlV) (W : World), NewL w0 W e N cells s1 ys → Fr noB w0 W → SlOf W N cells ok q2 [v] → q2.a ≠ none →
      wpAnyG P md ops (fun W => ∃ z : Grow w0, W = z.v) D L (fuel + 1) (((listed.setIfInBounds i0 true).setIfInBounds i1 true).setIfInBounds i2 true) (((a.put (some d0) v0).put (some d1) (.slice s1.a s1.len s1.cap)).put (some d2) (.slice q2.a q2.len q2.cap)) W := fun v0 s1 q2 W hn hf hq2 hne => by
    have ev1 : (((a.put (some d0) v0).put (some d1) (.slice s1.a s1.len s1.cap)).put (some d2) (.slice q2.a q2.len q2.cap)).eval (.tmp d1) = .slice s1.a s1.len s1.cap := by
      rw [eval_put_ne _ _ _ _ (fun h => m12 h.symm), eval_put_eq _ _ _ (by rw [size_put]; exact hd1)]
    have ev2 : (((a.put (some d0) v0).put (some d1) (.slice s1.a s1.len s1.cap)).put (some d2) (.slice q2.a q2.len q2.cap)).eval (.tmp d2) = .slice q2.a q2.len q2.cap := by
      rw [eval_put_eq _ _ _ (by rw [size_put, size_put]; exact hd2)]
    obtain ⟨s', W', hr, j1, j2, j3⟩ := run_append_rows (P := P) (ty := o3.type) ht z bytes hinfo hzs hNp hN h1c hn.1 hq2 (fun h => absurd h hne) (by simpa using hm) (by simpa using hbytes)
    obtain ⟨k1, k2⟩ := hn.step hf j1 j2 j3
    refine any_one i3 h3 r7 (mOp_run h3 g3 c3 (v := .slice s'.a s'.len s'.cap) (w' := W') ?_ (inG k2) ?_)
    · unfold execOp
      simp only [p3, resolve, invoke, builtin, Sem.run_bind, Sem.run_pure, Result.andThen_ok, List.map_toArray, List.map_cons, List.map_nil, ev1, ev2, hr]
    · rw [e3]
      exact h _ _ _ s' W' k1 k2
  refine any_two i0 i2 r1 (mOp_run h0 g0 c0 (b0 a w) (inG (hw0.alloc _)) ?_) (mOp_run h2 g2 c2 (b2 a w hy) (inG (hw0.alloc _)) ?_)
  · -- the empty literal first
    rw [e0]
    have hn0 := NewL.zero w0 w hw0 e N cells (α := α)
    have hf0 := hw0.alloc (.cells #[] e)
    refine any_two i1 i2 r2 ?_ ?_
    · obtain ⟨s1, W1, hr, k1, k2, k3, k4⟩ := b1 (a.put (some d0) (.slice (some ⟨w.heap.size, 0, none⟩) 0 0)) _ _ hn0 hf0 (eval_put_eq _ _ _ hd0) (by rw [eval_put_ne _ _ _ _ mx0]; exact hx)
      refine mOp_run h1 g1 c1 hr (inG k2) ?_
      rw [e1]
      refine any_one i2 h2 r3 (mOp_run h2 g2 c2 (b2 _ W1 (by rw [eval_put_ne _ _ _ _ my1, eval_put_ne _ _ _ _ my0]; exact hy)) (inG (k2.alloc _)) ?_)
      rw [e2]
      exact fin _ s1 ⟨some ⟨W1.heap.size, 0, none⟩, 1, 1⟩ _ (k1.fr ((Fr.refl _ _).alloc _)) (k2.alloc _) (slof_one hN e hok) (by simp)
    · refine mOp_run h2 g2 c2 (b2 _ _ (by rw [eval_put_ne _ _ _ _ my0]; exact hy)) (inG (hf0.alloc _)) ?_
      rw [e2]
      have hn1 := hn0.fr ((Fr.refl noB _).alloc (.cells (cells v).toArray e))
      have hone := slof_one (w := w.alloc (.cells #[] e)) (ok := ok) (x := v) hN e hok
      obtain ⟨s1, W1, hr, k1, k2, k3, k4⟩ := b1 ((a.put (some d0) (.slice (some ⟨w.heap.size, 0, none⟩) 0 0)).put (some d2) (.slice (some ⟨(w.alloc (.cells #[] e)).heap.size, 0, none⟩) 1 1)) _ _ hn1 (hf0.alloc _)
        (by rw [eval_put_ne _ _ _ _ (fun h => m02 h.symm)]; exact eval_put_eq _ _ _ hd0) (by rw [eval_put_ne _ _ _ _ mx2, eval_put_ne _ _ _ _ mx0]; exact hx)
      refine any_one i1 h1 r4 (mOp_run h1 g1 c1 hr (inG k2) ?_)
      rw [e1, Array.setIfInBounds_comm _ _ (fun h => n12 h.symm), put_swap _ _ _ (fun h => m12 h.symm)]
      refine fin _ s1 ⟨some ⟨(w.alloc (.cells #[] e)).heap.size, 0, none⟩, 1, 1⟩ _ k1 k2 (slof_fr hone k3 ?_) (by simp)
      rintro x hx ⟨y, hy, hb⟩
      simp only [Option.some.injEq] at hx hy
      subst hx; subst hy
      simp at hb
  · -- the literal of one first
    rw [e2]
    have hf0 := hw0.alloc (.cells (cells v).toArray e)
    have hone := slof_one (w := w) (ok := ok) (x := v) hN e hok
    have hn0 := NewL.zero w0 _ hf0 e N cells (α := α)
    refine any_one i0 h0 r5 (mOp_run h0 g0 c0 (b0 _ _) (inG (hf0.alloc _)) ?_)
    rw [e0]
    have hone' := slof_fr hone ((Fr.refl noB _).alloc (.cells #[] e)) (fun _ _ h => h)
    obtain ⟨s1, W1, hr, k1, k2, k3, k4⟩ := b1 ((a.put (some d2) (.slice (some ⟨w.heap.size, 0, none⟩) 1 1)).put (some d0) (.slice (some ⟨(w.alloc (.cells (cells v).toArray e)).heap.size, 0, none⟩) 0 0)) _ _ hn0 (hf0.alloc _)
      (eval_put_eq _ _ _ (by rw [size_put]; exact hd0)) (by rw [eval_put_ne _ _ _ _ mx0, eval_put_ne _ _ _ _ mx2]; exact hx)
    have r4' : Region.ready md ops ((listed.setIfInBounds i2 true).setIfInBounds i0 true) = [i1] := by rw [Array.setIfInBounds_comm _ _ (fun h => n02 h.symm)]; exact r4
    refine any_one i1 h1 r4' (mOp_run h1 g1 c1 hr (inG k2) ?_)
    rw [e1, put_swap _ _ _ (fun h => m02 h.symm), put_swap _ _ _ (fun h => m12 h.symm), Array.setIfInBounds_comm _ _ (fun h => n02 h.symm), Array.setIfInBounds_comm _ _ (fun h => n12 h.symm)]
    refine fin _ s1 ⟨some ⟨w.heap.size, 0, none⟩, 1, 1⟩ _ k1 k2 (slof_fr hone' k3 ?_) (by simp)
    rintro x hx ⟨y, hy, hb⟩
    simp only [Option.some.injEq] at hx hy
    subst hx; subst hy
    simp at hb
end Go.Proofs.Ytgjabgneapdbiaa
