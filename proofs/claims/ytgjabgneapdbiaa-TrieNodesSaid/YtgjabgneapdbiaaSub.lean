/- A store of a struct into a part of a block that is known whole. -/
import Derived.Test.YtgjabgneapdbiaaStep
namespace Go.Proofs.Ytgjabgneapdbiaa
open Go.RowKit
set_option linter.unusedSimpArgs false
set_option linter.unusedVariables false
section
variable {P : Program} {ops : Array Oper}
/-- A store of a struct into a part of a block that is known whole. -/
theorem wpList_store_sub {rest : List Oper} {o : Oper} {a : Act} {w : World} {Q : Exit → Act → World → Prop} (hgd : o.guard = none) (ty : TypeId) (x y : Operand) (ho : o.op = .store ty x y) (g off : Nat) (cs : Array Value) (t : TypeId) (ns : List Value)
    (hx : a.eval x = .pointer (some ⟨g, off, none⟩)) (hy : a.eval y = .agg ns.toArray) (hb : Blk w g cs t) (hlen : off + ns.length ≤ cs.size) (hi : (P.info? ty).map (·.size) = some ns.length) (h1c : ∀ u ∈ ns, u.oneCell' = true)
    (h : ∀ w', Blk w' g (cs.toList.take off ++ ns ++ cs.toList.drop (off + ns.length)).toArray t → Fr (oneB g) w w' → w'.heap.size = w.heap.size → wpList P ops Q rest (a.put o.dst undef) w') : wpList P ops Q (o :: rest) a w :=
  wpList_plain hgd fun _ hK => by
    have hst := run_storeCells_at P g off t ns 0 _ w hb (by rw [Nat.add_zero]; exact hlen) h1c
    simp only [Nat.add_zero] at hst
    have hr : (storeVar ty ⟨g, off, none⟩ (.agg ns.toArray)).run P w = .ok () (w.setRow g (cs.toList.take off ++ ns ++ cs.toList.drop (off + ns.length)).toArray) := by
      cases hq : P.info? ty with
      | none => simp [hq] at hi
      | some i =>
        have hsz : i.size = ns.length := by simpa [hq] using hi
        simp [storeVar, sizeOf, typeInfo, hq, Value.cells, hsz, hst]
    unfold Oper.wp execOp
    simp only [ho, hx, hy, Instr.storeAt, Instr.sureAddr, Sem.run_bind, Sem.run_pure, Result.andThen_ok, hr]
    exact hK _ _ (h _ hb.setRow ((Fr.refl (oneB g) _).setRow (.inr (show oneB g g from rfl)) _) (size_setRow _ _ _))
end
end Go.Proofs.Ytgjabgneapdbiaa
