/- An empty slice literal. -/
import Derived.Test.YtgjabgneapdbiaaOwn
namespace Go.Proofs.Ytgjabgneapdbiaa
open Go.RowKit
set_option linter.unusedVariables false
theorem run_build0 {P : Program} {t e : TypeId} (ht : P.underlying t = some (.slice e)) (hi : (P.info? e).isSome = true) (w : World) :
    (Instr.buildSlice t 0 #[]).run P w = .ok (.slice (some ⟨w.heap.size, 0, none⟩) 0 0) (w.alloc (.cells #[] e)) := by
  obtain ⟨i, hi⟩ := Option.isSome_iff_exists.1 hi
  unfold Instr.buildSlice
  simp only [Sem.run_bind, run_underlying ht, Result.andThen_ok, sizeOf, typeInfo]
  simp [hi, Instr.fill, newRow]
  have : (Array.map (fun _ : Nat => (default : Value)) (Array.range 0)) = #[] := by apply Array.eq_empty_of_size_eq_zero; simp
  rw [this]
theorem ownl_0 {α : Type} (w : World) (e : TypeId) (N : Nat) (cells : α → List Value) : OwnL (w.alloc (.cells #[] e)) e N cells ⟨some ⟨w.heap.size, 0, none⟩, 0, 0⟩ [] :=
  ⟨rfl, .inr ⟨_, [], rfl, Blk.alloc_new _ _ _, by simp, Nat.le_refl _, Nat.zero_le _⟩⟩
section
variable {P : Program} {ops : Array Oper} {S : World → Prop} {Q : Act → World → Prop}
theorem wpMix_build0 {o : Oper} {rest : List Oper} {a : Act} {w : World} (hgd : o.guard = none) (t : TypeId) (ho : o.op = .buildSlice t 0 #[]) {e : TypeId} (ht : P.underlying t = some (.slice e)) (hi : (P.info? e).isSome = true)
    (hS : S (w.alloc (.cells #[] e))) (h : wpMix P ops S Q rest (a.put o.dst (.slice (some ⟨w.heap.size, 0, none⟩) 0 0)) (w.alloc (.cells #[] e))) : wpMix P ops S Q (o :: rest) a w := by
  refine wpMix_run (by simp [Region.wanted, hgd]) (by rw [ho]; rfl) (w' := w.alloc (.cells #[] e)) (v := .slice (some ⟨w.heap.size, 0, none⟩) 0 0) ?_ hS h
  unfold execOp
  simp only [ho, List.map_toArray, List.map_nil]
  exact exec_v (run_build0 ht hi w)
theorem wpList_build0 {o : Oper} {rest : List Oper} {a : Act} {w : World} {Q : Exit → Act → World → Prop} (hgd : o.guard = none) (t : TypeId) (ho : o.op = .buildSlice t 0 #[]) {e : TypeId} (ht : P.underlying t = some (.slice e)) (hi : (P.info? e).isSome = true)
    (h : wpList P ops Q rest (a.put o.dst (.slice (some ⟨w.heap.size, 0, none⟩) 0 0)) (w.alloc (.cells #[] e))) : wpList P ops Q (o :: rest) a w :=
  wpList_plain hgd fun _ hK => by
    unfold Oper.wp execOp
    simp only [ho, List.map_toArray, List.map_nil]
    rw [exec_v (run_build0 ht hi w)]
    exact hK _ _ h
end
end Go.Proofs.Ytgjabgneapdbiaa
