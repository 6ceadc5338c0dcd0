/- A store of a whole struct into a variable that is known whole, in a region that draws its order. -/
import Derived.Test.YtgjabgneapdbiaaSub
namespace Go.Proofs.Ytgjabgneapdbiaa
open Go.RowKit
set_option linter.unusedSimpArgs false
set_option linter.unusedVariables false
section
variable {P : Program} {ops : Array Oper} {S : World → Prop} {Q : Act → World → Prop}
theorem run_store_blk {P : Program} {w : World} {ty : TypeId} {g : Nat} {cs : List Value} {old : Array Value} {t : TypeId} (hb : Blk w g old t) (hlen : old.size = cs.length) (hi : (P.info? ty).map (·.size) = some cs.length) (h1c : ∀ u ∈ cs, u.oneCell' = true) :
    (storeVar ty ⟨g, 0, none⟩ (.agg cs.toArray)).run P w = .ok () (w.setRow g cs.toArray) := by
  have hst := run_storeCells_at P g 0 t cs 0 _ w hb (by omega) h1c
  simp only [Nat.add_zero, Nat.zero_add] at hst
  rw [show old.toList.drop cs.length = [] from by rw [List.drop_eq_nil_iff]; simp [hlen], List.take_zero, List.nil_append, List.append_nil] at hst
  cases hq : P.info? ty with
  | none => simp [hq] at hi
  | some i =>
    have hsz : i.size = cs.length := by simpa [hq] using hi
    simp [storeVar, sizeOf, typeInfo, hq, Value.cells, hsz, hst]
theorem wpMix_store_blk {o : Oper} {rest : List Oper} {a : Act} {w : World} (hw : Region.wanted o (yielded ops a.tmps) = true) (ty : TypeId) (x y : Operand) (ho : o.op = .store ty x y) (g : Nat) (cs : List Value)
    (hx : a.eval x = .pointer (some ⟨g, 0, none⟩)) (hy : a.eval y = .agg cs.toArray) (old : Array Value) (t : TypeId) (hb : Blk w g old t) (hlen : old.size = cs.length) (hi : (P.info? ty).map (·.size) = some cs.length) (h1c : ∀ u ∈ cs, u.oneCell' = true)
    (hS : S (w.setRow g cs.toArray)) (h : wpMix P ops S Q rest (a.put o.dst undef) (w.setRow g cs.toArray)) : wpMix P ops S Q (o :: rest) a w := by
  refine wpMix_spine hw (by rw [ho]; rfl) (fun K hK => ?_)
  have hr := run_store_blk (P := P) hb hlen hi h1c
  unfold Oper.wp execOp
  simp only [ho, hx, hy, Instr.storeAt, Instr.sureAddr, Sem.run_bind, Sem.run_pure, Result.andThen_ok, hr]
  exact hK _ _ (by cases o.dst <;> rfl) hS h
end
end Go.Proofs.Ytgjabgneapdbiaa
