/- More about memory: putting a world behind a name with what is known of it. -/
import Derived.Test.YtgjabgneapdbiaaData
import Derived.BigQuiet
namespace Go.Proofs.Ytgjabgneapdbiaa
open Go.RowKit

instance growNonempty (w : World) : Nonempty (Grow w) := ⟨⟨w, Fr.refl _ _⟩⟩

theorem wp_gen {P : Program} {c : Code} {Q : Exit → Act → World → Prop} {a : Act} {w : World} (Good : World → Prop) (hg : Good w) (h : ∀ w', Good w' → c.wp P Q a w') : c.wp P Q a w := h w hg
theorem wpList_gen {P : Program} {ops : Array Oper} {Q : Exit → Act → World → Prop} {l : List Oper} {a : Act} {w : World} (Good : World → Prop) (hg : Good w) (h : ∀ w', Good w' → wpList P ops Q l a w') : wpList P ops Q l a w := h w hg
theorem calls_gen {P : Program} {f : FuncId} {args : Array Value} {R : Ending → World → Prop} {w : World} (Good : World → Prop) (hg : Good w) (h : ∀ w', Good w' → Calls P f args w' R) : Calls P f args w R := h w hg

theorem wpQuiet_load_at {P : Program} {ops : Array Oper} {C : World → Prop} {Q : Act → Prop} {a : Act} {o : Oper} {rest : List Oper} (hgd : o.guard = none) (ty : TypeId) (x : Operand) (ho : o.op = .load ty x)
    (b off : Nat) (hx : a.eval x = .pointer (some ⟨b, off, none⟩)) (cs : List Value) (hc : ∀ w, C w → CellsAt w b off cs) (d : TypeDesc)
    (hu : P.underlying ty = some d) (hd : (match d with | .struct _ | .array _ _ => true | _ => false) = true) (hi : (P.info? ty).map (·.size) = some cs.length)
    (h : wpQuiet P ops C Q rest (a.put o.dst (.agg cs.toArray))) : wpQuiet P ops C Q (o :: rest) a := by
  unfold wpQuiet
  rw [if_pos (by simp [Region.wanted, hgd])]
  refine ⟨_, fun w hw => ?_, h⟩
  unfold Oper.quietAt execOp
  simp only [ho, hx, Instr.loadAt, Instr.sureAddr, Sem.run_bind, Sem.run_pure, Result.andThen_ok, run_loadVar_at w ty b off cs (hc w hw) d hu hd hi]
  exact ⟨rfl, rfl⟩

theorem wpList_build_as {P : Program} {ops : Array Oper} {rest : List Oper} {o : Oper} {a : Act} {w : World} {Q : Exit → Act → World → Prop} (hg : o.guard = none) (t : TypeId) (parts : Array (Nat × Operand)) (ho : o.op = .build t parts)
    (cs : Array Value) (hb : P.built t (parts.map fun (i, x) => (i, a.eval x)).toList = some cs) (h : wpList P ops Q rest (a.put o.dst (.agg cs)) w) : wpList P ops Q (o :: rest) a w :=
  wpList_build hg t parts ho (by rw [hb]; rfl) (by rw [hb]; exact h)

/-! ### Rows of elements of one size, laid end to end -/
theorem flat_get {α : Type} {N : Nat} {cells : α → List Value} (hN : ∀ x, (cells x).length = N) (junk : List Value) : ∀ (xs : List α) (k : Nat) (x : α) (j : Nat), xs[k]? = some x → j < N → (xs.flatMap cells ++ junk)[k * N + j]? = (cells x)[j]?
  | [], k, x, j, h, _ => by simp at h
  | y :: ys, 0, x, j, h, hj => by
    simp only [List.getElem?_cons_zero, Option.some.injEq] at h
    subst h
    rw [Nat.zero_mul, Nat.zero_add, List.flatMap_cons, List.append_assoc, List.getElem?_append_left (by rw [hN]; exact hj)]
  | y :: ys, k + 1, x, j, h, hj => by
    simp only [List.getElem?_cons_succ] at h
    rw [List.flatMap_cons, List.append_assoc, List.getElem?_append_right (by rw [hN, Nat.add_mul]; omega), hN, show (k + 1) * N + j - N = k * N + j by rw [Nat.add_mul]; omega]
    exact flat_get hN junk ys k x j h hj
theorem flat_length {α : Type} {N : Nat} {cells : α → List Value} (hN : ∀ x, (cells x).length = N) : ∀ (xs : List α), (xs.flatMap cells).length = xs.length * N
  | [] => by simp
  | y :: ys => by rw [List.flatMap_cons, List.length_append, hN, flat_length hN ys, List.length_cons, Nat.add_mul]; omega
/-- A slice over a block of the call's own. -/
theorem slof_blk {α : Type} {w : World} {N : Nat} {cells : α → List Value} {ok : α → Prop} {g : Nat} {t : TypeId} {xs : List α} {junk : List Value} (hN : ∀ x, (cells x).length = N) (h : Blk w g (xs.flatMap cells ++ junk).toArray t)
    (hok : ∀ x ∈ xs, ok x) (cap : Nat) (hm : xs.length ≤ maxLen) : SlOf w N cells ok ⟨some ⟨g, 0, none⟩, xs.length, cap⟩ xs := by
  refine ⟨rfl, hm, .inr ⟨g, 0, rfl, h.lt, fun k x hx => ⟨fun j v hv => ?_, hok x (List.mem_of_getElem? hx)⟩⟩⟩
  have hj : j < N := by rw [← hN x]; exact (List.getElem?_eq_some_iff.1 hv).1
  rw [Nat.zero_add, h.cell, List.getElem?_toArray, flat_get hN junk xs k x j hx hj, hv]
end Go.Proofs.Ytgjabgneapdbiaa
