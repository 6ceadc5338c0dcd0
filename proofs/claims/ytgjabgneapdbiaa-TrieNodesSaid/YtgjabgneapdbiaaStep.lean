/- Steps of the walk for structs that are kept whole: loads, stores, comparisons; facts carried over new blocks. -/
import Derived.Test.YtgjabgneapdbiaaOwn
import Derived.Laws.StructEq
namespace Go.Proofs.Ytgjabgneapdbiaa
open Go.RowKit
set_option linter.unusedSimpArgs false
set_option linter.unusedVariables false

/-! ### The last bits of a number -/
theorem i64_and65535 (n : Int) : bits .and .i64 n 65535 = n % 65536 := by
  have hk : (BitVec.ofInt 64 65535).toNat = 2 ^ 16 - 1 := by decide
  have key : (BitVec.ofInt 64 n &&& BitVec.ofInt 64 65535).toNat = (n % ((2 ^ 64 : Nat) : Int)).toNat % 2 ^ 16 := by
    rw [BitVec.toNat_and, BitVec.toNat_ofInt, hk, Nat.and_two_pow_sub_one_eq_mod]
  show IntKind.i64.wrap ((BitVec.ofInt 64 n &&& BitVec.ofInt 64 65535).toNat : Nat) = n % 65536
  rw [key, IntKind.wrap_i64]
  omega
theorem i64_and31 (n : Int) : bits .and .i64 n 31 = n % 32 := by
  have hk : (BitVec.ofInt 64 31).toNat = 2 ^ 5 - 1 := by decide
  have key : (BitVec.ofInt 64 n &&& BitVec.ofInt 64 31).toNat = (n % ((2 ^ 64 : Nat) : Int)).toNat % 2 ^ 5 := by
    rw [BitVec.toNat_and, BitVec.toNat_ofInt, hk, Nat.and_two_pow_sub_one_eq_mod]
  show IntKind.i64.wrap ((BitVec.ofInt 64 n &&& BitVec.ofInt 64 31).toNat : Nat) = n % 32
  rw [key, IntKind.wrap_i64]
  omega
theorem i64_and63 (n : Int) : bits .and .i64 n 63 = n % 64 := by
  have hk : (BitVec.ofInt 64 63).toNat = 2 ^ 6 - 1 := by decide
  have key : (BitVec.ofInt 64 n &&& BitVec.ofInt 64 63).toNat = (n % ((2 ^ 64 : Nat) : Int)).toNat % 2 ^ 6 := by
    rw [BitVec.toNat_and, BitVec.toNat_ofInt, hk, Nat.and_two_pow_sub_one_eq_mod]
  show IntKind.i64.wrap ((BitVec.ofInt 64 n &&& BitVec.ofInt 64 63).toNat : Nat) = n % 64
  rw [key, IntKind.wrap_i64]
  omega
theorem mod_nat (n : Int) (m : Nat) (hm : 0 < m) : ∃ k : Nat, k < m ∧ (bits .and .i64 n 65535).tmod (m : Int) = (k : Int) := by
  rw [i64_and65535, Int.tmod_eq_emod_of_nonneg (Int.emod_nonneg _ (by decide))]
  refine ⟨((n % 65536) % (m : Int)).toNat, ?_, ?_⟩
  · have h1 := Int.emod_nonneg (n % 65536) (b := (m : Int)) (by omega)
    have h2 := Int.emod_lt_of_pos (n % 65536) (b := (m : Int)) (by omega)
    omega
  · have h1 := Int.emod_nonneg (n % 65536) (b := (m : Int)) (by omega)
    omega
section
variable {w : World} {b o : Nat} {cs : List Value}
theorem CellsAt.alloc (h : CellsAt w b o cs) (x : Obj) : CellsAt (w.alloc x) b o cs := h.fr ((Fr.refl noB w).alloc x) (fun h => h)
theorem CellsAt.drew (h : CellsAt w b o cs) : CellsAt w.drew b o cs := h
theorem CellsAt.drewN (h : CellsAt w b o cs) (n : Nat) : CellsAt (w.drewN n) b o cs := h.fr ((Fr.refl noB w).drewN n) (fun h => h)
theorem cells_new (w : World) (cs : List Value) (t : TypeId) {g : Nat} (hg : g = w.heap.size) : CellsAt (w.alloc (.cells cs.toArray t)) g 0 cs := by subst hg; exact (Blk.alloc_new w cs.toArray t).cells
theorem setRow_new (w : World) (c0 cs : Array Value) (t : TypeId) : (w.alloc (.cells c0 t)).setRow w.heap.size cs = w.alloc (.cells cs t) := by
  simp only [World.setRow, ← World.alloc_eq, World.mk.injEq, and_true, true_and]
  apply Array.ext
  · simp
  · intro i h1 h2
    rw [Array.getElem_modify]
    simp only [Array.size_modify, Array.size_push] at h1
    by_cases e : w.heap.size = i
    · subst e; simp
    · rw [if_neg e, Array.getElem_push_lt (by omega), Array.getElem_push_lt (by omega)]
end

theorem slof_fr {α : Type} {S : Nat → Prop} {w w' : World} {N : Nat} {cells : α → List Value} {ok : α → Prop} {s : SlV} {xs : List α} (h : SlOf w N cells ok s xs) (f : Fr S w w') (hs : ∀ a, s.a = some a → ¬ S a.block) : SlOf w' N cells ok s xs := by
  obtain ⟨h1, h3, h2⟩ := h
  refine ⟨h1, h3, ?_⟩
  rcases h2 with h2 | ⟨b, o, e, hb, hk⟩
  · exact .inl h2
  · exact .inr ⟨b, o, e, f.lt hb, fun k x hx => ⟨(hk k x hx).1.fr f (hs _ e), (hk k x hx).2⟩⟩

section
variable {P : Program} {ops : Array Oper}
/-- A store of a whole struct into the variable that was made last. -/
theorem wpList_store_new {rest : List Oper} {o : Oper} {a : Act} {w : World} {Q : Exit → Act → World → Prop} (hgd : o.guard = none) (ty : TypeId) (x y : Operand) (ho : o.op = .store ty x y) (c0 : Array Value) (t : TypeId) (cs : List Value) (g : Nat)
    (hx : a.eval x = .pointer (some ⟨g, 0, none⟩)) (hy : a.eval y = .agg cs.toArray) (hg : g = w.heap.size) (hi : (P.info? ty).map (·.size) = some cs.length) (hold : c0.size = cs.length) (h1 : cs.all (·.oneCell') = true)
    (h : wpList P ops Q rest (a.put o.dst undef) (w.alloc (.cells cs.toArray t))) : wpList P ops Q (o :: rest) a (w.alloc (.cells c0 t)) := by
  subst hg
  refine wpList_store_row hgd ty x y ho _ cs.toArray hx hy t c0 (heap_alloc_new _ _) (by simpa using hi) (by simpa using hold) (by simpa using h1) ?_
  rw [setRow_new]
  exact h

/-- A comparison of two structs. -/
theorem wpList_eqs {rest : List Oper} {o : Oper} {a : Act} {w : World} {Q : Exit → Act → World → Prop} (hw : Region.wanted o (yielded ops a.tmps) = true) (neg : Bool) (t : TypeId) (x y : Operand) (ho : o.op = .binOp (if neg then .neq else .eql) t x y t) (xs ys : Array Value)
    (hx : a.eval x = .agg xs) (hy : a.eval y = .agg ys) (r : Bool) (hm : P.eqGuardType P.depth t = false) (he : (Op.equal t (.agg xs) (.agg ys)).run P w = .ok r w)
    (h : wpList P ops Q rest (a.put o.dst (.bool (neg ^^ r))) w) : wpList P ops Q (o :: rest) a w := by
  refine wpList_step fun K hK => ?_
  rw [if_pos hw]
  have he' : (Op.equalIn 10000 t (.agg xs) (.agg ys)).run P w = .ok r w := he
  cases neg with
  | false =>
    unfold Oper.wp execOp
    simp only [ho, hx, hy, Bool.false_eq_true, if_false]
    rw [exec_v (v := .bool r) (w' := w)]
    · exact hK _ _ (by simpa using h)
    · rw [Sem.run_bind, run_eqGuard_agg _ _ _ _ _ _ _ hm]
      simp only [Result.andThen_ok]
      rw [run_eql_struct, he']
      rfl
  | true =>
    unfold Oper.wp execOp
    simp only [ho, hx, hy, if_true]
    rw [exec_v (v := .bool (!r)) (w' := w)]
    · exact hK _ _ (by simpa using h)
    · rw [Sem.run_bind, run_eqGuard_agg _ _ _ _ _ _ _ hm]
      simp only [Result.andThen_ok]
      rw [run_neq_struct, he']
      rfl
theorem exec_eqs {o : Oper} {a : Act} {w : World} (neg : Bool) (t : TypeId) (x y : Operand) (ho : o.op = .binOp (if neg then .neq else .eql) t x y t) (xs ys : Array Value)
    (hx : a.eval x = .agg xs) (hy : a.eval y = .agg ys) (r : Bool) (hm : P.eqGuardType P.depth t = false) (he : (Op.equal t (.agg xs) (.agg ys)).run P w = .ok r w) : (execOp a.eval o).run P w = .ok (.value (.bool (neg ^^ r))) w := by
  have he' : (Op.equalIn 10000 t (.agg xs) (.agg ys)).run P w = .ok r w := he
  unfold execOp
  cases neg with
  | false =>
    simp only [ho, hx, hy, Bool.false_eq_true, if_false]
    refine exec_v ?_
    rw [Sem.run_bind, run_eqGuard_agg _ _ _ _ _ _ _ hm]
    simp only [Result.andThen_ok]
    rw [run_eql_struct, he']
    simp
  | true =>
    simp only [ho, hx, hy, if_true]
    refine exec_v ?_
    rw [Sem.run_bind, run_eqGuard_agg _ _ _ _ _ _ _ hm]
    simp only [Result.andThen_ok]
    rw [run_neq_struct, he']
    simp
theorem wpMix_eqs {S : World → Prop} {Q : Act → World → Prop} {rest : List Oper} {o : Oper} {a : Act} {w : World} (hw : Region.wanted o (yielded ops a.tmps) = true) (neg : Bool) (t : TypeId) (x y : Operand) (ho : o.op = .binOp (if neg then .neq else .eql) t x y t) (xs ys : Array Value)
    (hx : a.eval x = .agg xs) (hy : a.eval y = .agg ys) (r : Bool) (hm : P.eqGuardType P.depth t = false) (he : ∀ w, (Op.equal t (.agg xs) (.agg ys)).run P w = .ok r w)
    (h : wpMix P ops S Q rest (a.put o.dst (.bool (neg ^^ r))) w) : wpMix P ops S Q (o :: rest) a w := by
  unfold wpMix mOper
  rw [if_pos hw, if_pos (by rw [ho]; cases neg <;> rfl)]
  refine ⟨_, fun w hw => ?_, h⟩
  unfold Oper.quietAt
  rw [exec_eqs neg t x y ho xs ys hx hy r hm (he w)]
  exact ⟨rfl, rfl⟩
theorem wpQuiet_eqs {C : World → Prop} {Q : Act → Prop} {rest : List Oper} {o : Oper} {a : Act} (hg : o.guard = none) (neg : Bool) (t : TypeId) (x y : Operand) (ho : o.op = .binOp (if neg then .neq else .eql) t x y t) (xs ys : Array Value)
    (hx : a.eval x = .agg xs) (hy : a.eval y = .agg ys) (r : Bool) (hm : P.eqGuardType P.depth t = false) (he : ∀ w, (Op.equal t (.agg xs) (.agg ys)).run P w = .ok r w)
    (h : wpQuiet P ops C Q rest (a.put o.dst (.bool (neg ^^ r)))) : wpQuiet P ops C Q (o :: rest) a := by
  unfold wpQuiet
  rw [if_pos (by simp [Region.wanted, hg])]
  refine ⟨_, fun w hw => ?_, h⟩
  unfold Oper.quietAt
  rw [exec_eqs neg t x y ho xs ys hx hy r hm (he w)]
  exact ⟨rfl, rfl⟩
end

/-- A world in which at most the blocks in S have changed. -/
structure GrowS (S : Nat → Prop) (w : World) where
  v : World
  fr : Fr S w v
instance growsNonempty (S : Nat → Prop) (w : World) : Nonempty (GrowS S w) := ⟨⟨w, Fr.refl _ _⟩⟩
theorem inGrowS {S : Nat → Prop} {w w' : World} (h : Fr S w w') : ∃ z : GrowS S w, w' = z.v := ⟨⟨w', h⟩, rfl⟩
/-! ### A slice of the call's own, whose block is younger than a given world -/
/-- Nothing that was there at w0 has changed, and the slice lies in a younger block. -/
def NewL {α : Type} (w0 w : World) (e : TypeId) (N : Nat) (cells : α → List Value) (s : SlV) (xs : List α) : Prop := OwnL w e N cells s xs ∧ ∀ b, ownB s b → w0.heap.size ≤ b
section
variable {α : Type} {w0 w w' : World} {e : TypeId} {N : Nat} {cells : α → List Value} {s : SlV} {xs : List α}
theorem NewL.nil (w0 w : World) (e : TypeId) (N : Nat) (cells : α → List Value) : NewL w0 w e N cells ⟨none, 0, 0⟩ ([] : List α) := ⟨OwnL.nil _ _ _ _, fun b ⟨_, h, _⟩ => by simp at h⟩
theorem NewL.zero (w0 w : World) (h : Fr noB w0 w) (e : TypeId) (N : Nat) (cells : α → List Value) : NewL w0 (w.alloc (.cells #[] e)) e N cells ⟨some ⟨w.heap.size, 0, none⟩, 0, 0⟩ ([] : List α) :=
  ⟨⟨rfl, .inr ⟨_, [], rfl, Blk.alloc_new _ _ _, by simp, Nat.le_refl _, Nat.zero_le _⟩⟩, fun b ⟨a, ha, hb⟩ => by
    simp only [Option.some.injEq] at ha
    subst ha; subst hb
    exact h.size⟩
theorem NewL.fr (h : NewL w0 w e N cells s xs) (f : Fr noB w w') : NewL w0 w' e N cells s xs := ⟨h.1.fr f (fun _ _ h => h), h.2⟩
theorem NewL.frS {S : Nat → Prop} (h : NewL w0 w e N cells s xs) (f : Fr S w w') (hs : ∀ b, ownB s b → ¬ S b) : NewL w0 w' e N cells s xs := ⟨h.1.fr f hs, h.2⟩
theorem NewL.slof {ok : α → Prop} (h : NewL w0 w e N cells s xs) (hN : ∀ x, (cells x).length = N) (hok : ∀ x ∈ xs, ok x) : SlOf w N cells ok s xs := h.1.slof hN hok
theorem NewL.len (h : NewL w0 w e N cells s xs) : s.len = xs.length := h.1.1
theorem NewL.step (h : NewL w0 w e N cells s xs) (h0 : Fr noB w0 w) {s' : SlV} {ys : List α} (ho : OwnL w' e N cells s' ys) (hf : Fr (ownB s) w w')
    (hor : (s'.a = s.a ∧ w'.heap.size = w.heap.size) ∨ (∃ g', s'.a = some ⟨g', 0, none⟩ ∧ w.heap.size ≤ g' ∧ Fr noB w w')) : NewL w0 w' e N cells s' ys ∧ Fr noB w0 w' := by
  refine ⟨⟨ho, ?_⟩, Fr.trans h0 hf (fun _ _ h => h) (fun x hx hs => by have := h.2 x hs; omega)⟩
  rintro b ⟨x, hx, rfl⟩
  rcases hor with ⟨e1, _⟩ | ⟨g', e1, hg, _⟩
  · exact h.2 _ ⟨x, by rw [← e1]; exact hx, rfl⟩
  · rw [e1] at hx
    simp only [Option.some.injEq] at hx
    subst hx
    have := h0.size
    simp only
    omega
variable {P : Program} {ops : Array Oper}
theorem wpMix_append_new {rest : List Oper} {o : Oper} {a : Act} {Q : Act → World → Prop} (hw : Region.wanted o (yielded ops a.tmps) = true) (sx xx : Operand) (t : TypeId)
    (ho : o.op = .call { callee := .builtin .append, args := #[sx, xx], argTypes := #[t, t] }) (ht : P.underlying t = some (.slice e)) (z : Value) (bytes : Nat)
    (hinfo : (P.info? e).map (fun i => (i.zero, i.size, i.bytes)) = some (some z, N, bytes)) (hzs : z.cells.size = N) (hNp : 0 < N) (hN : ∀ x, (cells x).length = N) (h1c : ∀ x, ∀ u ∈ cells x, u.oneCell' = true)
    (hs : a.eval sx = .slice s.a s.len s.cap) (hown : NewL w0 w e N cells s xs) (h0 : Fr noB w0 w) {ok : α → Prop} {q : SlV} {ys : List α} (hx : a.eval xx = .slice q.a q.len q.cap) (hq : SlOf w N cells ok q ys) (hnil : q.a = none → q.cap = 0)
    (hm : xs.length + ys.length ≤ maxLen) (hbytes : (xs.length + ys.length) * bytes ≤ 140737488355328)
    (h : ∀ s' w', NewL w0 w' e N cells s' (xs ++ ys) → Fr noB w0 w' → Fr (ownB s) w w' → wpMix P ops (fun W => ∃ z : Grow w0, W = z.v) Q rest (a.put o.dst (.slice s'.a s'.len s'.cap)) w') :
    wpMix P ops (fun W => ∃ z : Grow w0, W = z.v) Q (o :: rest) a w :=
  wpMix_append_rows hw sx xx t ho ht z bytes hinfo hzs hNp hN h1c hs hown.1 hx hq hnil hm hbytes fun s' w' h1 h2 h3 => by
    obtain ⟨g1, g2⟩ := hown.step h0 h1 h2 h3
    exact ⟨⟨⟨w', g2⟩, rfl⟩, h s' w' g1 g2 h2⟩
theorem wpList_append_new {rest : List Oper} {o : Oper} {a : Act} {Q : Exit → Act → World → Prop} (hgd : o.guard = none) (sx xx : Operand) (t : TypeId)
    (ho : o.op = .call { callee := .builtin .append, args := #[sx, xx], argTypes := #[t, t] }) (ht : P.underlying t = some (.slice e)) (z : Value) (bytes : Nat)
    (hinfo : (P.info? e).map (fun i => (i.zero, i.size, i.bytes)) = some (some z, N, bytes)) (hzs : z.cells.size = N) (hNp : 0 < N) (hN : ∀ x, (cells x).length = N) (h1c : ∀ x, ∀ u ∈ cells x, u.oneCell' = true)
    (hs : a.eval sx = .slice s.a s.len s.cap) (hown : NewL w0 w e N cells s xs) (h0 : Fr noB w0 w) {ok : α → Prop} {q : SlV} {ys : List α} (hx : a.eval xx = .slice q.a q.len q.cap) (hq : SlOf w N cells ok q ys) (hnil : q.a = none → q.cap = 0)
    (hm : xs.length + ys.length ≤ maxLen) (hbytes : (xs.length + ys.length) * bytes ≤ 140737488355328)
    (h : ∀ s' w', NewL w0 w' e N cells s' (xs ++ ys) → Fr noB w0 w' → Fr (ownB s) w w' → wpList P ops Q rest (a.put o.dst (.slice s'.a s'.len s'.cap)) w') : wpList P ops Q (o :: rest) a w :=
  wpList_append_rows hgd sx xx t ho ht z bytes hinfo hzs hNp hN h1c hs hown.1 hx hq hnil hm hbytes fun s' w' h1 h2 h3 => by
    obtain ⟨g1, g2⟩ := hown.step h0 h1 h2 h3
    exact h s' w' g1 g2 h2
/-- .. and where the slice lies then. -/
theorem wpList_append_newD {rest : List Oper} {o : Oper} {a : Act} {Q : Exit → Act → World → Prop} (hgd : o.guard = none) (sx xx : Operand) (t : TypeId)
    (ho : o.op = .call { callee := .builtin .append, args := #[sx, xx], argTypes := #[t, t] }) (ht : P.underlying t = some (.slice e)) (z : Value) (bytes : Nat)
    (hinfo : (P.info? e).map (fun i => (i.zero, i.size, i.bytes)) = some (some z, N, bytes)) (hzs : z.cells.size = N) (hNp : 0 < N) (hN : ∀ x, (cells x).length = N) (h1c : ∀ x, ∀ u ∈ cells x, u.oneCell' = true)
    (hs : a.eval sx = .slice s.a s.len s.cap) (hown : NewL w0 w e N cells s xs) (h0 : Fr noB w0 w) {ok : α → Prop} {q : SlV} {ys : List α} (hx : a.eval xx = .slice q.a q.len q.cap) (hq : SlOf w N cells ok q ys) (hnil : q.a = none → q.cap = 0)
    (hm : xs.length + ys.length ≤ maxLen) (hbytes : (xs.length + ys.length) * bytes ≤ 140737488355328)
    (h : ∀ s' w', NewL w0 w' e N cells s' (xs ++ ys) → Fr noB w0 w' → Fr (ownB s) w w' → (∀ b, ownB s' b → ownB s b ∨ w.heap.size ≤ b) → wpList P ops Q rest (a.put o.dst (.slice s'.a s'.len s'.cap)) w') : wpList P ops Q (o :: rest) a w :=
  wpList_append_rows hgd sx xx t ho ht z bytes hinfo hzs hNp hN h1c hs hown.1 hx hq hnil hm hbytes fun s' w' h1 h2 h3 => by
    obtain ⟨g1, g2⟩ := hown.step h0 h1 h2 h3
    refine h s' w' g1 g2 h2 ?_
    rintro b ⟨x, hx, rfl⟩
    rcases h3 with ⟨e1, _⟩ | ⟨g', e1, hg, _⟩
    · exact .inl ⟨x, by rw [← e1]; exact hx, rfl⟩
    · rw [e1] at hx
      simp only [Option.some.injEq] at hx
      subst hx
      exact .inr hg
/-- A store of a whole element. -/
theorem wpList_store_elem {rest : List Oper} {o : Oper} {a : Act} {Q : Exit → Act → World → Prop} (hgd : o.guard = none) (ty : TypeId) (x y : Operand) (ho : o.op = .store ty x y) (hown : OwnL w e N cells s xs) (hN : ∀ x, (cells x).length = N) {g : Nat} (hg : s.a = some ⟨g, 0, none⟩)
    (k : Nat) (hk : k < xs.length) (v : α) (hx : a.eval x = .pointer (some ⟨g, k * N, none⟩)) (hy : a.eval y = .agg (cells v).toArray) (hi : (P.info? ty).map (·.size) = some N) (h1c : ∀ u ∈ cells v, u.oneCell' = true)
    (h : ∀ w', OwnL w' e N cells s (xs.set k v) → Fr (oneB g) w w' → w'.heap.size = w.heap.size → wpList P ops Q rest (a.put o.dst undef) w') : wpList P ops Q (o :: rest) a w :=
  wpList_plain hgd fun _ hK => by
    obtain ⟨w', hr, h1, h2, h3⟩ := hown.setElem hN hg hk (t := ty) (P := P) hi h1c
    unfold Oper.wp execOp
    simp only [ho, hx, hy, Instr.storeAt, Instr.sureAddr, Sem.run_bind, Sem.run_pure, Result.andThen_ok, hr]
    exact hK _ _ (h w' h1 h2 h3)
/-- One element as a slice literal. -/
theorem slof_one {w : World} {ok : α → Prop} {x : α} (hN : ∀ x, (cells x).length = N) (t : TypeId) (hok : ok x) : SlOf (w.alloc (.cells (cells x).toArray t)) N cells ok ⟨some ⟨w.heap.size, 0, none⟩, 1, 1⟩ [x] := by
  have h := slof_blk (ok := ok) (xs := [x]) (junk := []) hN (by simpa using Blk.alloc_new w (cells x).toArray t) (fun y hy => by simp at hy; subst hy; exact hok) 1 (by simp [maxLen])
  exact h
end
end Go.Proofs.Ytgjabgneapdbiaa
