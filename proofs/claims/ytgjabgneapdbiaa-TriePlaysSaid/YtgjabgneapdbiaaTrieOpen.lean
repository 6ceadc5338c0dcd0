/- The arguments of chapter 9's laws, opened. -/
import Derived.Test.YtgjabgneapdbiaaTrieLaid
namespace Go.Proofs.Ytgjabgneapdbiaa
open Go.ChangeShapes Go.WideShapes Go.Deep Go.RowKit
set_option linter.unusedSimpArgs false
set_option linter.unusedVariables false

section
variable {H : Type} {enc : TypeId × Value → H} {W : World} {v : Value} {d : DataW H} {p : List MemPlace} {base : Nat}
set_option maxRecDepth 100000 in
theorem open_acts (hv : Value.okWide Try.prog W .any base 32 v) (h : DataW.Trod enc Try.prog W 0 (fun _ => true) true 32 v d p) :
    ∃ (s : SlV) (rs : List TActM), v = .slice s.a s.len s.cap ∧ TActs W s rs := by
  obtain ⟨a, len, cap, rfl⟩ := okWide_slice Try.underlying32 hv
  obtain ⟨fuel, hf⟩ := h
  obtain ⟨s, xs, hcs, hs⟩ := open_slof 4 TActM.cells TActM.wf Try.underlying32 cellsOf_TAct (by decide) (fun _ _ _ h => open_TAct h) hf
  refine ⟨s, xs, ?_, hs⟩
  simpa [Value.cells] using hcs
end
end Go.Proofs.Ytgjabgneapdbiaa
