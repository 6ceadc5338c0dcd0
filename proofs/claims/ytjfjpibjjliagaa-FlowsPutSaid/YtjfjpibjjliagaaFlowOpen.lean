/- The arguments of chapter 17's laws, opened. -/
import Derived.Test.YtjfjpibjjliagaaFlowHelp2
namespace Go.Proofs.Ytjfjpibjjliagaa
open Go.ChangeShapes Go.WideShapes Go.Deep Go.RowKit
set_option linter.unusedSimpArgs false
set_option linter.unusedVariables false

section
variable {H : Type} {enc : TypeId × Value → H} {W : World} {v : Value} {d : DataW H} {p : List MemPlace} {base : Nat}
theorem open_acts (hv : Value.okWide Try.prog W .any base 42 v) (h : DataW.Trod enc Try.prog W 0 (fun _ => true) true 42 v d p) :
    ∃ (s : SlV) (rs : List ActM), v = .slice s.a s.len s.cap ∧ Acts W s rs := by
  obtain ⟨a, len, cap, rfl⟩ := okWide_slice Try.underlying42 hv
  obtain ⟨fuel, hf⟩ := h
  obtain ⟨s, xs, hcs, hs⟩ := open_slof 16 ActM.cells ActM.wf Try.underlying42 cellsOf_Act (by decide) (fun _ _ _ h => open_Act h) hf
  refine ⟨s, xs, ?_, hs⟩
  simpa [Value.cells] using hcs
theorem open_flows (hv : Value.okWide Try.prog W .any base 22 v) (h : DataW.Trod enc Try.prog W 0 (fun _ => true) true 22 v d p) :
    ∃ (s : SlV) (rs : List FlowM), v = .slice s.a s.len s.cap ∧ Flows W s rs := by
  obtain ⟨a, len, cap, rfl⟩ := okWide_slice Try.underlying22 hv
  obtain ⟨fuel, hf⟩ := h
  obtain ⟨s, xs, hcs, hs⟩ := open_slof 14 FlowM.cells FlowM.wf Try.underlying22 cellsOf_Flow (by decide) (fun _ _ _ h => open_Flow h) hf
  refine ⟨s, xs, ?_, hs⟩
  simpa [Value.cells] using hcs
end
end Go.Proofs.Ytjfjpibjjliagaa
